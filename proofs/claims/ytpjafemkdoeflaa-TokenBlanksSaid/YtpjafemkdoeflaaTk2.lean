/-
  The tests of bytes that call others, and loops over bytes: names, words, texts.
-/
import Derived.Test.YtpjafemkdoeflaaTk1
namespace Go.Proofs.Ytpjafemkdoeflaa
open Go.RowKit

theorem inner_any (n : Int) (w : World) : Calls Try.prog 29 #[.int .u8 n] w (BoolP (inI n) w) := by
  unfold BoolP
  have hl := rletter_any n
  unfold BoolP at hl
  obtain ⟨b, hb⟩ : ∃ b, ltI n = b := ⟨_, rfl⟩
  rw [hb] at hl
  have HL := Lib.hid hl
  clear hl
  cases b
  · have hb : ¬ ((97 ≤ n ∧ n ≤ 122) ∨ (65 ≤ n ∧ n ≤ 90)) := by unfold ltI at hb; exact of_decide_eq_false hb
    by_cases h1 : 48 ≤ n <;> by_cases h2 : n ≤ 57 <;> by_cases h3 : n = 95 <;> by_cases h4 : n = 45
    all_goals first | (exfalso; omega) | skip
    all_goals first | subst h3 | subst h4 | skip
    all_goals
      try have b3 : (n == 95) = false := by simp [h3]
      try have b4 : (n == 45) = false := by simp [h4]
      go_enter Try.func29, Try.ntmps29
      go_wp2_with fail
      refine (HL.out _).mono ?_
      rintro e w2 ⟨rfl, rfl⟩
      go_wp2
      go_ret
      exact ⟨ret_bool (by unfold inI; first | exact (decide_eq_true (by omega)).symm | exact (decide_eq_false (by omega)).symm | exact decide_eq_decide.2 (by omega)), rfl⟩
  · have hb : (97 ≤ n ∧ n ≤ 122) ∨ (65 ≤ n ∧ n ≤ 90) := by unfold ltI at hb; exact of_decide_eq_true hb
    go_enter Try.func29, Try.ntmps29
    go_wp2_with fail
    refine (HL.out _).mono ?_
    rintro e w2 ⟨rfl, rfl⟩
    go_wp2
    go_ret
    exact ⟨ret_bool (by unfold inI; exact (decide_eq_true (by omega)).symm), rfl⟩
theorem blank_any (n : Int) (w : World) : Calls Try.prog 13 #[.int .u8 n] w (BoolP (blI n) w) := by
  unfold BoolP
  by_cases h1 : n = 32 <;> by_cases h2 : n = 9 <;> by_cases h3 : n = 10
  all_goals first | (exfalso; omega) | skip
  all_goals first | subst h1 | subst h2 | subst h3 | skip
  all_goals
    try have b1 : (n == 32) = false := by simp [h1]
    try have b2 : (n == 9) = false := by simp [h2]
    try have b3 : (n == 10) = false := by simp [h3]
    go_enter Try.func13, Try.ntmps13
    go_wp2
    go_ret
    exact ⟨ret_bool (by unfold blI; first | exact (decide_eq_true (by omega)).symm | exact (decide_eq_false (by omega)).symm | exact decide_eq_decide.2 (by omega)), rfl⟩
theorem wordy_any (n : Int) (w : World) : Calls Try.prog 33 #[.int .u8 n] w (BoolP (wdI n) w) := by
  unfold BoolP
  have hl := inner_any n
  unfold BoolP at hl
  obtain ⟨b, hb⟩ : ∃ b, inI n = b := ⟨_, rfl⟩
  rw [hb] at hl
  have HL := Lib.hid hl
  clear hl
  cases b
  · have hb := of_decide_eq_false hb
    by_cases h3 : n = 46 <;> by_cases h4 : n = 61
    all_goals first | (exfalso; omega) | skip
    all_goals first | subst h3 | subst h4 | skip
    all_goals
      try have b3 : (n == 46) = false := by simp [h3]
      try have b4 : (n == 61) = false := by simp [h4]
      go_enter Try.func33, Try.ntmps33
      go_wp2_with fail
      refine (HL.out _).mono ?_
      rintro e w2 ⟨rfl, rfl⟩
      go_wp2
      go_ret
      exact ⟨ret_bool (by unfold wdI; first | exact (decide_eq_true (by omega)).symm | exact (decide_eq_false (by omega)).symm | exact decide_eq_decide.2 (by omega)), rfl⟩
  · have hb := of_decide_eq_true hb
    go_enter Try.func33, Try.ntmps33
    go_wp2_with fail
    refine (HL.out _).mono ?_
    rintro e w2 ⟨rfl, rfl⟩
    go_wp2
    go_ret
    exact ⟨ret_bool (by unfold wdI; exact (decide_eq_true (by omega)).symm), rfl⟩
end Go.Proofs.Ytpjafemkdoeflaa
