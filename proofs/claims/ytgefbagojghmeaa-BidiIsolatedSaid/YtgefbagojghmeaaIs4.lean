/-
  calqueref23.Class: the class of an element. The examples of layer 24 hold.
-/
import Derived.Test.YtgefbagojghmeaaIs3
namespace Go.Proofs.Ytgefbagojghmeaa
open Go.RowKit

/-- The class of an element: 0 neutral, 1 left, 2 right, 3 number, 4 initiator, 5 terminator. -/
def cls (c : Int) : Int :=
  if 8294 ≤ c ∧ c ≤ 8296 then 4 else if c = 8297 then 5 else if (1424 ≤ c ∧ c ≤ 2303) ∨ (64285 ≤ c ∧ c ≤ 65276) then 2
  else if 48 ≤ c ∧ c ≤ 57 then 3 else if (65 ≤ c ∧ c ≤ 90) ∨ (97 ≤ c ∧ c ≤ 122) ∨ (192 ≤ c ∧ (c < 8192 ∨ 12287 < c)) then 1 else 0
theorem ret_int {a b : Int} (h : a = b) : Ending.returned (.int .i64 a) = .returned (.int .i64 b) := by rw [h]
def ClassP (c : Int) (w : World) (e : Ending) (w' : World) : Prop := e = .returned (.int .i64 (cls c)) ∧ w = w'

set_option maxRecDepth 100000 in
set_option maxHeartbeats 1000000 in
theorem class_any (c : Int) (w : World) : Calls Try.prog 14 #[.int .i64 c] w (ClassP c w) := by
  unfold ClassP
  obtain ⟨k, hk⟩ : ∃ k, cls c = k := ⟨_, rfl⟩
  rw [hk]
  unfold cls at hk
  by_cases h1 : 8294 ≤ c <;> by_cases h2 : c ≤ 8296 <;> by_cases h3 : c = 8297 <;> by_cases h4 : 1424 ≤ c <;> by_cases h5 : c ≤ 2303 <;> by_cases h6 : 64285 ≤ c <;> by_cases h7 : c ≤ 65276
  all_goals first | (exfalso; omega) | skip
  all_goals by_cases h8 : 48 ≤ c <;> by_cases h9 : c ≤ 57 <;> by_cases h10 : 65 ≤ c <;> by_cases h11 : c ≤ 90 <;> by_cases h12 : 97 ≤ c <;> by_cases h13 : c ≤ 122
  all_goals first | (exfalso; omega) | skip
  all_goals by_cases h14 : 192 ≤ c <;> by_cases h15 : c < 8192 <;> by_cases h16 : 12287 < c
  all_goals first | (exfalso; omega) | skip
  all_goals
    have HK := Lib.hid hk
    clear hk
    go_enter Try.func14, Try.ntmps14
    go_wp2
    go_ret
    exact ⟨ret_int (by have hk := HK.out; revert hk; repeat' split; all_goals omega), rfl⟩
end Go.Proofs.Ytgefbagojghmeaa
