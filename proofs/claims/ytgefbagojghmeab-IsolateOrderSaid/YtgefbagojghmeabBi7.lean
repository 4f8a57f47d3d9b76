/-
  calqueref23.items: the items of a segment, with their directions.
-/
import Derived.Test.YtgefbagojghmeabBi6
namespace Go.Proofs.Ytgefbagojghmeab
open Go.RowKit

def to4 (x : Nat × Nat × Int) : Int := if x.2.1 = x.1 then -1 else x.2.1
def cells4 (x : (Nat × Nat × Int) × Int) : List Value := [.int .i64 x.1.1, .int .i64 (to4 x.1), .int .i64 x.1.2.2, .int .i64 x.2]
def flat4 (l : List ((Nat × Nat × Int) × Int)) : List Value := l.flatMap cells4
theorem flat4_app (a b : List ((Nat × Nat × Int) × Int)) : flat4 (a ++ b) = flat4 a ++ flat4 b := by unfold flat4; rw [List.flatMap_append]
theorem flat4_at : ∀ (l : List ((Nat × Nat × Int) × Int)) (i : Nat) (x : (Nat × Nat × Int) × Int), l[i]? = some x →
    (flat4 l)[4 * i]? = some (.int .i64 x.1.1) ∧ (flat4 l)[4 * i + 1]? = some (.int .i64 (to4 x.1)) ∧ (flat4 l)[4 * i + 2]? = some (.int .i64 x.1.2.2) ∧ (flat4 l)[4 * i + 3]? = some (.int .i64 x.2)
  | [], i, x, h => by simp at h
  | y :: l, 0, x, h => by
    simp at h
    subst h
    exact ⟨rfl, rfl, rfl, rfl⟩
  | y :: l, i + 1, x, h => by
    have h : l[i]? = some x := by simpa using h
    obtain ⟨a, b, c, d⟩ := flat4_at l i x h
    have e : flat4 (y :: l) = cells4 y ++ flat4 l := rfl
    have e2 : (cells4 y).length = 4 := rfl
    rw [e, show 4 * (i + 1) = 4 * i + 4 by omega]
    refine ⟨?_, ?_, ?_, ?_⟩
    · rw [List.getElem?_append_right (by omega), e2]; simpa using a
    · rw [List.getElem?_append_right (by omega), e2]; simpa using b
    · rw [List.getElem?_append_right (by omega), e2]; simpa using c
    · rw [List.getElem?_append_right (by omega), e2]; simpa using d
/-- A slice that reads as items with directions. -/
def IsItems4 (w : World) (B : Nat) (v : Value) (l : List ((Nat × Nat × Int) × Int)) : Prop :=
  ∃ ao cap, v = .slice ao l.length cap ∧ (0 < l.length → ∃ b o, ao = some ⟨b, o, none⟩ ∧ b < B ∧ ∀ i x, l[i]? = some x →
    w.cell? ⟨b, o + i * 4, none⟩ = some (.int .i64 x.1.1) ∧ w.cell? ⟨b, o + i * 4 + 1, none⟩ = some (.int .i64 (to4 x.1)) ∧ w.cell? ⟨b, o + i * 4 + 2, none⟩ = some (.int .i64 x.1.2.2) ∧ w.cell? ⟨b, o + i * 4 + 3, none⟩ = some (.int .i64 x.2))
theorem IsItems4.of_own {w : World} {base : Nat} {e : TypeId} {v : Value} {l : List ((Nat × Nat × Int) × Int)} (h : w.ownsRow base e 4 v l.length (flat4 l)) : IsItems4 w w.heap.size v l := by
  by_cases hl : 0 < l.length
  · obtain ⟨g, cap, rfl, _, hlt⟩ := h.form hl
    have hc := h.cells (g := g) rfl
    refine ⟨some ⟨g, 0, none⟩, cap, rfl, fun _ => ⟨g, 0, rfl, hlt, fun i x hi => ?_⟩⟩
    obtain ⟨c0, c1, c2, c3⟩ := flat4_at l i x hi
    have e : ∀ j, (⟨g, 0, none⟩ : Addr).add j = ⟨g, 0 + j, none⟩ := by intro j; unfold Addr.add; split <;> simp_all
    have d0 := hc _ _ c0
    have d1 := hc _ _ c1
    have d2 := hc _ _ c2
    have d3 := hc _ _ c3
    rw [e] at d0 d1 d2 d3
    rw [Nat.mul_comm 4 i] at d0 d1 d2 d3
    exact ⟨d0, d1, d2, d3⟩
  · have : l = [] := List.eq_nil_of_length_eq_zero (by omega)
    subst this
    rcases h.2 with ⟨rfl, _⟩ | ⟨g, cap, cur, rfl, _⟩
    · exact ⟨none, 0, rfl, fun hl => absurd hl (by simp)⟩
    · exact ⟨_, cap, rfl, fun hl => absurd hl (by simp)⟩
theorem cell_four_new (w : World) (a b c d : Value) (e : TypeId) : ∀ j u, [a, b, c, d][j]? = some u → (w.alloc (.cells #[a, b, c, d] e)).cell? ((⟨w.heap.size, 0, none⟩ : Addr).add j) = some u := by
  intro j u hj
  have e1 : (⟨w.heap.size, 0, none⟩ : Addr).add j = ⟨w.heap.size, j, none⟩ := by unfold Addr.add; split <;> simp_all
  rw [e1, cell_of_row _ _ j _ _ _ (heap_alloc_new w _)]
  simpa using hj
theorem cell_four_new2 (w : World) (o : Obj) (a b c d : Value) (e : TypeId) : ∀ j u, [a, b, c, d][j]? = some u → ((w.alloc o).alloc (.cells #[a, b, c, d] e)).cell? ((⟨w.heap.size + 1, 0, none⟩ : Addr).add j) = some u := by
  have := cell_four_new (w.alloc o) a b c d e
  rw [show (w.alloc o).heap.size = w.heap.size + 1 by simp] at this
  exact this
/-- The items of a segment with their directions. -/
def items4 (xs : List Int) (a b : Nat) (e : Int) : List ((Nat × Nat × Int) × Int) := (items xs a b).zip (dirs (own e) (clsOf (items xs a b)))

end Go.Proofs.Ytgefbagojghmeab
