/-
  calqueref23.strong, direction, inner and items.
-/
import Derived.Test.YtgefbagojghmeabBi4
namespace Go.Proofs.Ytgefbagojghmeab
open Go.RowKit

theorem cls_cases (c : Int) : (cls c = 4 ∧ initB c = true ∧ bcl c = 0) ∨ (cls c = 5 ∧ initB c = false ∧ bcl c = 0) ∨ (cls c = bcl c ∧ initB c = false ∧ 0 ≤ cls c ∧ cls c ≤ 3) := by
  by_cases h4 : cls c = 4
  · have := (cls_init c).1 h4
    exact .inl ⟨h4, this, bcl_init this⟩
  · have hi : initB c = false := by
      cases h : initB c with
      | false => rfl
      | true => exact absurd ((cls_init c).2 h) h4
    by_cases h5 : cls c = 5
    · exact .inr (.inl ⟨h5, hi, bcl_term h5⟩)
    · have := cls_bcl h4 h5
      have hr := bcl_range c
      exact .inr (.inr ⟨this.symm, hi, by omega, by omega⟩)
end Go.Proofs.Ytgefbagojghmeab
