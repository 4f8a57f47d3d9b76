/-
  The tests of bytes, of the program and of the reference.
-/
import Derived.Test.YtpjafemkdoeflaaTk0
import Derived.Test.YtpjafemkdoeflaaProg
import Derived.WalkKit
import Derived.WalkSpells
import Derived.WalkLawsBesides
import Derived.Laws.BytesArg
import Derived.Lib.Hide
import Derived.Deep.Draws
namespace Go.Proofs.Ytpjafemkdoeflaa
open Go.RowKit

theorem ret_bool {a b : Bool} (h : a = b) : Ending.returned (.bool a) = .returned (.bool b) := by rw [h]
def BoolP (b : Bool) (w : World) (e : Ending) (w' : World) : Prop := e = .returned (.bool b) ∧ w = w'

theorem special_any (n : Int) (w : World) : Calls Try.prog 27 #[.int .u8 n] w (BoolP (spI n) w) := by
  unfold BoolP
  by_cases h1 : n = 123
  · subst h1
    go_enter Try.func27, Try.ntmps27
    go_wp2
    go_ret
    exact ⟨rfl, rfl⟩
  by_cases h2 : n = 125
  · subst h2
    go_enter Try.func27, Try.ntmps27
    go_wp2
    go_ret
    exact ⟨rfl, rfl⟩
  by_cases h3 : n = 60
  · subst h3
    go_enter Try.func27, Try.ntmps27
    go_wp2
    go_ret
    exact ⟨rfl, rfl⟩
  by_cases h4 : n = 62
  · subst h4
    go_enter Try.func27, Try.ntmps27
    go_wp2
    go_ret
    exact ⟨rfl, rfl⟩
  by_cases h5 : n = 35
  · subst h5
    go_enter Try.func27, Try.ntmps27
    go_wp2
    go_ret
    exact ⟨rfl, rfl⟩
  by_cases h6 : n = 92
  · subst h6
    go_enter Try.func27, Try.ntmps27
    go_wp2
    go_ret
    exact ⟨rfl, rfl⟩
  · have hs : spI n = false := by unfold spI; exact decide_eq_false (by omega)
    rw [hs]
    have b1 : (n == 123) = false := by simp [h1]
    have b2 : (n == 125) = false := by simp [h2]
    have b3 : (n == 60) = false := by simp [h3]
    have b4 : (n == 62) = false := by simp [h4]
    have b5 : (n == 35) = false := by simp [h5]
    have b6 : (n == 92) = false := by simp [h6]
    go_enter Try.func27, Try.ntmps27
    go_wp2
    go_ret
    exact ⟨rfl, rfl⟩
theorem rspecial_any (n : Int) (w : World) : Calls Try.prog 26 #[.int .u8 n] w (BoolP (spI n) w) := by
  unfold BoolP
  by_cases hs : spI n = true
  · rw [hs]
    have h : n = 123 ∨ n = 125 ∨ n = 60 ∨ n = 62 ∨ n = 35 ∨ n = 92 := by unfold spI at hs; simpa using hs
    clear hs
    rcases h with rfl | rfl | rfl | rfl | rfl | rfl
    all_goals
      go_enter Try.func26, Try.ntmps26
      go_wp2
      go_ret
      exact ⟨rfl, rfl⟩
  · have hs : spI n = false := by simpa using hs
    rw [hs]
    have h : ¬ (n = 123 ∨ n = 125 ∨ n = 60 ∨ n = 62 ∨ n = 35 ∨ n = 92) := by unfold spI at hs; simpa using hs
    have b1 : (n == 123) = false := by simp; omega
    have b2 : (n == 125) = false := by simp; omega
    have b3 : (n == 60) = false := by simp; omega
    have b4 : (n == 62) = false := by simp; omega
    have b5 : (n == 35) = false := by simp; omega
    have b6 : (n == 92) = false := by simp; omega
    clear hs h
    go_enter Try.func26, Try.ntmps26
    go_wp2
    go_ret
    exact ⟨rfl, rfl⟩
theorem letter_any (n : Int) (w : World) : Calls Try.prog 28 #[.int .u8 n] w (BoolP (ldI n) w) := by
  unfold BoolP
  by_cases h1 : 97 ≤ n <;> by_cases h2 : n ≤ 122 <;> by_cases h3 : 65 ≤ n <;> by_cases h4 : n ≤ 90 <;> by_cases h5 : 48 ≤ n <;> by_cases h6 : n ≤ 57
  all_goals first | (exfalso; omega) | skip
  all_goals
    go_enter Try.func28, Try.ntmps28
    go_wp2
    go_ret
    exact ⟨ret_bool (by simp [ldI]; omega), rfl⟩
theorem lower_any (n : Int) (w : World) : Calls Try.prog 30 #[.int .u8 n] w (BoolP (loI n) w) := by
  unfold BoolP
  by_cases h1 : 97 ≤ n <;> by_cases h2 : n ≤ 122
  all_goals first | (exfalso; omega) | skip
  all_goals
    go_enter Try.func30, Try.ntmps30
    go_wp2
    go_ret
    exact ⟨ret_bool (by simp [loI]; omega), rfl⟩
theorem rletter_any (n : Int) (w : World) : Calls Try.prog 37 #[.int .u8 n] w (BoolP (ltI n) w) := by
  unfold BoolP
  have hl := lower_any n
  unfold BoolP at hl
  obtain ⟨b, hb⟩ : ∃ b, loI n = b := ⟨_, rfl⟩
  rw [hb] at hl
  have HL := Lib.hid hl
  clear hl
  cases b
  · have hb : ¬ (97 ≤ n ∧ n ≤ 122) := by unfold loI at hb; simpa using hb
    by_cases h3 : 65 ≤ n <;> by_cases h4 : n ≤ 90
    all_goals first | (exfalso; omega) | skip
    all_goals
      go_enter Try.func37, Try.ntmps37
      go_wp2_with fail
      refine (HL.out _).mono ?_
      rintro e w2 ⟨rfl, rfl⟩
      go_wp2
      go_ret
      exact ⟨ret_bool (by unfold ltI; first | exact (decide_eq_true (by omega)).symm | exact (decide_eq_false (by omega)).symm | exact decide_eq_decide.2 (by omega)), rfl⟩
  · have hb : 97 ≤ n ∧ n ≤ 122 := by unfold loI at hb; simpa using hb
    go_enter Try.func37, Try.ntmps37
    go_wp2_with fail
    refine (HL.out _).mono ?_
    rintro e w2 ⟨rfl, rfl⟩
    go_wp2
    go_ret
    exact ⟨ret_bool (by unfold ltI; first | exact (decide_eq_true (by omega)).symm | exact (decide_eq_false (by omega)).symm | exact decide_eq_decide.2 (by omega)), rfl⟩
end Go.Proofs.Ytpjafemkdoeflaa
