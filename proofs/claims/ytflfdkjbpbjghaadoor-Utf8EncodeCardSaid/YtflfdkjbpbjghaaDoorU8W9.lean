/-
  calquelaw01.awake returns true.
-/
import Derived.Test.YtflfdkjbpbjghaaDoorU8W5
import Derived.Test.YtflfdkjbpbjghaaDoorU8W8
namespace Go.Proofs.YtflfdkjbpbjghaaDoor
open Go.RowKit

def TrueP (w : World) (e : Ending) (w' : World) : Prop := e = .returned (.bool true) ∧ Below w.heap.size w w'

theorem at_awake (w : World) : Calls Tryd.prog 17 #[.string ⟨#[97, 98, 10, 99, 100]⟩, .int .i64 4] w fun e w' => e = .returned (.tuple #[.agg #[.int .i64 4, .int .i64 2, .int .i64 2], .int .i64 0]) ∧ Below w.heap.size w w' := by
  refine (at_any ⟨#[97, 98, 10, 99, 100]⟩ (by decide) 4 w).mono ?_
  rintro e w' ⟨he, hb⟩
  have h : U8.atS (⟨#[97, 98, 10, 99, 100]⟩ : ByteArray).data.toList 4 = some (4, 2, 2) := by decide +kernel
  rw [h] at he
  exact ⟨he, hb⟩
theorem decode_awake (w : World) : Calls Tryd.prog 10 #[.string ⟨#[97, 195, 164, 255]⟩] w fun e w' => (∃ v, e = .returned v ∧ IsInts w' w'.heap.size v [97, 228, 65533]) ∧ Below w.heap.size w w' := by
  refine (decode_any ⟨#[97, 195, 164, 255]⟩ (by decide) w).mono ?_
  rintro e w' ⟨v, he, ho, hb⟩
  have h : ints (U8.els (⟨#[97, 195, 164, 255]⟩ : ByteArray).data.toList) = [97, 228, 65533] := by decide +kernel
  rw [h] at ho
  exact ⟨⟨v, he, IsInts.of_own ho⟩, hb⟩

set_option maxRecDepth 100000 in
set_option maxHeartbeats 1000000 in
theorem awake_any (w : World) : Calls Tryd.prog 7 #[] w (TrueP w) := by
  go_enter Tryd.func7, Tryd.ntmps7
  go_wp2_with fail
  refine (at_awake _).mono ?_
  rintro e w1 ⟨rfl, hb1⟩
  have HB1 := Lib.hid hb1
  clear hb1
  go_wp2_with fail
  refine (decode_awake _).mono ?_
  rintro e w2 ⟨⟨v, rfl, hi⟩, hb2⟩
  have HI := Lib.hid hi
  have HB2 := Lib.hid hb2
  clear hi hb2
  go_wp2_with fail
  refine (same_any _ _ [97, 228, 65533] [97, 228, 65533] _ _ _ ((HI.out.below ((Below.refl _ _).alloc (Nat.le_refl _) _))) (IsInts.new w2 3 [97, 228, 65533]) (by decide)).mono ?_
  rintro e w3 ⟨rfl, hb3⟩
  have hp1 := (HB2.out.block w1.heap.size (by simp)).trans (heap_alloc_new w1 _)
  have hp2 := (hb3.block w1.heap.size (by have := heap_lt hp1; simp; omega)).trans ((Below.heap_alloc _ _ _ (heap_lt hp1)).trans hp1)
  have c0 := row_cell hp2 0
  have c1 := row_cell hp2 1
  have c2 := row_cell hp2 2
  simp only [List.getElem?_toArray, List.getElem?_cons_zero, List.getElem?_cons_succ] at c0 c1 c2
  have s1 := HB1.out.size
  have s2 := HB2.out.size
  have hb : Below w.heap.size w w3 := (HB1.out.alloc s1 _).trans ((HB2.out.mono (by simp; omega)).trans (((Below.refl w2.heap.size w2).alloc (Nat.le_refl _) _).trans (hb3.mono (by simp)) |>.mono (by simp at s2; omega)))
  have HB := Lib.hid hb
  clear hb hb3 hp1 hp2 s1 s2
  go_wp2
  go_ret
  exact ⟨rfl, HB.out⟩
end Go.Proofs.YtflfdkjbpbjghaaDoor
