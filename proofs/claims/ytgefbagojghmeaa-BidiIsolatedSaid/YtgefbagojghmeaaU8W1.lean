/-
  Walks of calqueref01.Point and calqueref01.One: what they return.
-/
import Derived.Test.YtgefbagojghmeaaU8N
import Derived.WalkKit
import Derived.WalkSpells
import Derived.WalkLawsBesides
import Derived.Laws.BytesArg
import Derived.Lib.Hide
import Derived.Deep.Draws
namespace Go.Proofs.Ytgefbagojghmeaa
open Go.RowKit


theorem point_any (n : Int) (w : World) : Calls Try.prog 45 #[.int .i64 n] w fun e w' => e = .returned (.bool (pointB n)) ∧ w = w' := by
  by_cases h : 0 ≤ n <;> by_cases h1 : n ≤ 1114111 <;> by_cases h2 : n < 55296 <;> by_cases h3 : 57343 < n
  all_goals first | (exfalso; omega) | skip
  all_goals
    go_enter Try.func45, Try.ntmps45
    go_wp2
    go_ret
    exact ⟨ret_bool (by simp [pointB]; omega), rfl⟩

/-- A literal of bytes, converted to a string. -/
theorem conv_lit (xs : List Int) (w : World) : (convert 60 9 (.slice (some ⟨w.heap.size, 0, none⟩) xs.length xs.length)).run Try.prog (w.alloc (.cells (xs.map (Value.int .u8)).toArray 5)) =
    .ok (.string (strOfNums xs)) (w.alloc (.cells (xs.map (Value.int .u8)).toArray 5)) := by
  refine run_convert_bytes_arg _ _ _ Try.underlying60 Try.underlying5 _ _ _ _ xs rfl (fun i hi => ?_) _ Try.underlying9
  rw [Nat.zero_add, cell_of_row _ _ i _ _ _ (heap_alloc_new w _)]
  simp [hi]

/-- The encoding of a number. -/
def oneL (n : Int) : List Int :=
  if n < 128 then [n] else if n < 2048 then [192 + n / 64, 128 + n % 64] else if n < 65536 then [224 + n / 4096, 128 + n / 64 % 64, 128 + n % 64]
  else [240 + n / 262144, 128 + n / 4096 % 64, 128 + n / 64 % 64, 128 + n % 64]
def OneP (n : Int) (w : World) (e : Ending) (w' : World) : Prop := e = .returned (.string (strOfNums (oneL n))) ∧ Below w.heap.size w w'

theorem one_any (n : Int) (w : World) (h0 : 0 ≤ n) (hn : n ≤ 1114111) : Calls Try.prog 46 #[.int .i64 n] w (OneP n w) := by
  by_cases h1 : n < 128
  · have hc := conv_lit [n] w
    simp only [List.map_cons, List.map_nil, List.length_cons, List.length_nil, Nat.zero_add] at hc
    have fin : oneL n = [n] := by simp [oneL, h1]
    have HF := Lib.hid fin
    clear fin
    go_enter Try.func46, Try.ntmps46
    go_wp2
    go_ret
    unfold OneP
    rw [HF.out]
    exact ⟨rfl, (Below.refl _ _).alloc (Nat.le_refl _) _⟩
  by_cases h2 : n < 2048
  · have hc := conv_lit [192 + n / 64, 128 + n % 64] w
    simp only [List.map_cons, List.map_nil, List.length_cons, List.length_nil, Nat.zero_add, Nat.reduceAdd] at hc
    have fin : oneL n = [192 + n / 64, 128 + n % 64] := by simp [oneL, h1, h2]
    have HF := Lib.hid fin
    clear fin
    go_enter Try.func46, Try.ntmps46
    go_wp2
    go_ret
    unfold OneP
    rw [HF.out]
    exact ⟨rfl, (Below.refl _ _).alloc (Nat.le_refl _) _⟩
  by_cases h3 : n < 65536
  · have hc := conv_lit [224 + n / 4096, 128 + n / 64 % 64, 128 + n % 64] w
    simp only [List.map_cons, List.map_nil, List.length_cons, List.length_nil, Nat.zero_add, Nat.reduceAdd] at hc
    have fin : oneL n = [224 + n / 4096, 128 + n / 64 % 64, 128 + n % 64] := by simp [oneL, h1, h2, h3]
    have HF := Lib.hid fin
    clear fin
    go_enter Try.func46, Try.ntmps46
    go_wp2
    go_ret
    unfold OneP
    rw [HF.out]
    exact ⟨rfl, (Below.refl _ _).alloc (Nat.le_refl _) _⟩
  · have hc := conv_lit [240 + n / 262144, 128 + n / 4096 % 64, 128 + n / 64 % 64, 128 + n % 64] w
    simp only [List.map_cons, List.map_nil, List.length_cons, List.length_nil, Nat.zero_add, Nat.reduceAdd] at hc
    have fin : oneL n = [240 + n / 262144, 128 + n / 4096 % 64, 128 + n / 64 % 64, 128 + n % 64] := by simp [oneL, h1, h2, h3]
    have HF := Lib.hid fin
    clear fin
    go_enter Try.func46, Try.ntmps46
    go_wp2
    go_ret
    unfold OneP
    rw [HF.out]
    exact ⟨rfl, (Below.refl _ _).alloc (Nat.le_refl _) _⟩
end Go.Proofs.Ytgefbagojghmeaa
