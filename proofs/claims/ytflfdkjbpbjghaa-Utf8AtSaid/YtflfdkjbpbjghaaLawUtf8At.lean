/-
  The law Utf8At: what At and its reference answer is the same.
-/
import Derived.Test.YtflfdkjbpbjghaaU8W6
import Derived.Test.YtflfdkjbpbjghaaU8W9
namespace Go.Proofs.Ytflfdkjbpbjghaa
open Go.RowKit

theorem atV_form (o : Option U8.Pos) : ∃ a b c k : Int, atV o = .tuple #[.agg #[.int .i64 a, .int .i64 b, .int .i64 c], .int .i64 k] := by
  cases o with
  | none => exact ⟨_, _, _, _, rfl⟩
  | some p => exact ⟨_, _, _, _, rfl⟩

set_option maxRecDepth 100000 in
set_option maxHeartbeats 1000000 in
theorem law_Utf8At (s : ByteArray) (off : Int) (hs : s.size ≤ maxLen) (w : World) : Calls Try.prog 3 #[.string s, .int .i64 off] w (TrueP w) := by
  unfold maxLen at hs
  by_cases hl : 300 < s.size
  · go_enter Try.func3, Try.ntmps3
    go_wp2_with fail
    refine (awake_any _).mono ?_
    rintro e w1 ⟨rfl, hb1⟩
    have HB1 := Lib.hid hb1
    clear hb1
    go_wp2_with fail
    refine (awake_any _).mono ?_
    rintro e w2 ⟨rfl, hb2⟩
    have HB2 := Lib.hid (HB1.out.trans (hb2.mono HB1.out.size))
    clear hb2
    go_wp2
    go_ret
    exact ⟨rfl, HB2.out⟩
  · obtain ⟨a, b, c, k, hv⟩ := atV_form (U8.atS s.data.toList off)
    have h1 : ∀ W : World, Calls Try.prog 8 #[.string s, .int .i64 off] W fun e w' => e = .returned (.tuple #[.agg #[.int .i64 a, .int .i64 b, .int .i64 c], .int .i64 k]) ∧ Below W.heap.size W w' := by
      intro W
      refine (at_any s (by omega) off W).mono ?_
      rintro e w' ⟨he, hb⟩
      exact ⟨by rw [he, hv], hb⟩
    have h2 : ∀ W : World, Calls Try.prog 9 #[.string s, .int .i64 off] W fun e w' => e = .returned (.tuple #[.agg #[.int .i64 a, .int .i64 b, .int .i64 c], .int .i64 k]) ∧ Below W.heap.size W w' := by
      intro W
      refine (refat_any s (by omega) off W).mono ?_
      rintro e w' ⟨he, hb⟩
      exact ⟨by rw [he, hv], hb⟩
    have H1 := Lib.hid h1
    have H2 := Lib.hid h2
    clear h1 h2 hv
    go_enter Try.func3, Try.ntmps3
    go_wp2_with fail
    refine (awake_any _).mono ?_
    rintro e w1 ⟨rfl, hb1⟩
    have HB1 := Lib.hid hb1
    clear hb1
    go_wp2_with fail
    refine (H1.out _).mono ?_
    rintro e w2 ⟨rfl, hb2⟩
    have HB2 := Lib.hid (HB1.out.trans (hb2.mono HB1.out.size))
    clear hb2
    go_wp2_with fail
    refine (H2.out _).mono ?_
    rintro e w3 ⟨rfl, hb3⟩
    have HB3 := Lib.hid hb3
    clear hb3
    have hp := (HB3.out.block w2.heap.size (by simp)).trans (heap_alloc_new w2 _)
    have c0 := row_cell hp 0
    have c1 := row_cell hp 1
    have c2 := row_cell hp 2
    simp only [List.getElem?_toArray, List.getElem?_cons_zero, List.getElem?_cons_succ] at c0 c1 c2
    have hz := heap_lt hp
    clear hp
    go_wp2
    go_ret
    have z2 := HB2.out.size
    have z3 := HB3.out.size
    simp at z3
    refine ⟨rfl, ?_⟩
    exact ((HB2.out.alloc z2 _).trans (HB3.out.mono (by simp; omega))).alloc (by omega) _
end Go.Proofs.Ytflfdkjbpbjghaa
