/-
  Slices of integers that are read.
-/
import Derived.Test.YtgefbagojghmeaaU8W1
import Derived.Test.YtgefbagojghmeaaU8b
import Derived.Deep.QuietTactic
import Derived.BigQuiet
import Derived.Lib.OthersKept
import Derived.Deep.AppendLies
namespace Go.Proofs.Ytgefbagojghmeaa
open Go.RowKit

/-- The slice value v reads as the numbers xs; what it reads lies below block number B. -/
def IsInts (w : World) (B : Nat) (v : Value) (xs : List Int) : Prop :=
  ∃ ao cap, v = .slice ao xs.length cap ∧ (0 < xs.length → ∃ b o, ao = some ⟨b, o, none⟩ ∧ b < B ∧ ∀ i, i < xs.length → w.cell? ⟨b, o + i, none⟩ = some (.int .i64 (xs.getD i 0)))
theorem IsInts.below {w w' : World} {B : Nat} {v : Value} {xs : List Int} (h : IsInts w B v xs) (hb : Below B w w') : IsInts w' B v xs := by
  obtain ⟨ao, cap, rfl, h⟩ := h
  refine ⟨ao, cap, rfl, fun hl => ?_⟩
  obtain ⟨b, o, rfl, hB, hc⟩ := h hl
  exact ⟨b, o, rfl, hB, fun i hi => (hb.cell (p := ⟨b, o + i, none⟩) hB).trans (hc i hi)⟩
theorem IsInts.more {w : World} {B B' : Nat} {v : Value} {xs : List Int} (h : IsInts w B v xs) (hB : B ≤ B') : IsInts w B' v xs := by
  obtain ⟨ao, cap, rfl, h⟩ := h
  refine ⟨ao, cap, rfl, fun hl => ?_⟩
  obtain ⟨b, o, rfl, hB', hc⟩ := h hl
  exact ⟨b, o, rfl, by omega, hc⟩
theorem IsInts.of_own {w : World} {base : Nat} {e : TypeId} {v : Value} {xs : List Int} (h : w.ownsRow base e 1 v xs.length (xs.map (Value.int .i64))) : IsInts w w.heap.size v xs := by
  by_cases hl : 0 < xs.length
  · obtain ⟨g, cap, rfl, _, hlt⟩ := h.form hl
    have hc := h.cells (g := g) rfl
    refine ⟨some ⟨g, 0, none⟩, cap, rfl, fun _ => ⟨g, 0, rfl, hlt, fun i hi => ?_⟩⟩
    have := hc i (.int .i64 (xs.getD i 0)) (by simp [hi])
    rw [Nat.zero_add]
    have e : (⟨g, 0, none⟩ : Addr).add i = ⟨g, i, none⟩ := by unfold Addr.add; split <;> simp_all
    rwa [e] at this
  · have : xs = [] := List.eq_nil_of_length_eq_zero (by omega)
    subst this
    rcases h.2 with ⟨rfl, _⟩ | ⟨g, cap, cur, rfl, _⟩
    · exact ⟨none, 0, rfl, fun hl => absurd hl (by simp)⟩
    · exact ⟨_, cap, rfl, fun hl => absurd hl (by simp)⟩
theorem IsInts.new (w : World) (e : TypeId) (xs : List Int) : IsInts (w.alloc (.cells (xs.map (Value.int .i64)).toArray e)) (w.heap.size + 1) (.slice (some ⟨w.heap.size, 0, none⟩) xs.length xs.length) xs :=
  ⟨_, _, rfl, fun _ => ⟨_, _, rfl, by omega, fun i hi => by
    rw [Nat.zero_add, cell_of_row _ _ i _ _ _ (heap_alloc_new w _)]
    simp [hi]⟩⟩

end Go.Proofs.Ytgefbagojghmeaa
