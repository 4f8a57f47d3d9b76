/-
  A slice of integers that comes in as an argument.
-/
import Derived.Test.YtgefbagojghmeaaU8I
import Derived.ChangeSlices
import Derived.ChangeOld
namespace Go.Proofs.Ytgefbagojghmeaa
open Go.RowKit Go.ChangeShapes Go.WideShapes Go.ChangeShapes

theorem ints_in {H : Type} {enc : TypeId × Value → H} {P : Program} {W : World} {t e : TypeId} {b : Option Addr} {len cap : Nat} {d : DataW H} {p : List MemPlace} (ht : P.underlying t = some (.slice e)) (he : P.underlying e = some (.int .i64)) (hc : P.cellsOf e = 1)
    (h : DataW.Trod enc P W 0 (fun _ => true) true t (.slice b len cap) d p) : ∃ xs : List Int, IsInts W W.heap.size (.slice b len cap) xs ∧ xs.length ≤ maxLen := by
  obtain ⟨fuel, hf⟩ := h
  rcases open_ints ht he hc hf with ⟨hcs, hx⟩ | ⟨a, len', cap', zs, hcs, _, hl, hm, hz, hx, hcell, hwz⟩
  · simp [Value.cells] at hcs
    obtain ⟨rfl, rfl, rfl⟩ := hcs
    exact ⟨[], ⟨none, 0, rfl, fun h => absurd h (by simp)⟩, by simp⟩
  · simp [Value.cells] at hcs
    obtain ⟨rfl, rfl, rfl⟩ := hcs
    simp only [if_true] at hz
    have hlen : (zs.take len).length = len := by rw [List.length_take]; omega
    refine ⟨zs.take len, ⟨some a, cap, by rw [hlen], fun h0 => ?_⟩, by omega⟩
    rw [hlen] at h0
    obtain ⟨blk, off, spot⟩ := a
    have hspot : spot = none := by simpa [Addr.add] using World.cell?_spot (hcell 0 (by omega))
    subst hspot
    refine ⟨blk, off, rfl, ?_, fun i hi => ?_⟩
    · have := hcell 0 (by omega)
      exact World.block_lt_of_cell? W ⟨blk, off, none⟩ (by simpa [Addr.add] using this)
    · rw [hlen] at hi
      have := hcell i (by omega)
      have e1 : (zs.take len).getD i 0 = zs.getD i 0 := by simp [List.getD, hi]
      rw [e1, ← this]
      congr 1
      unfold Addr.add
      split <;> simp_all
end Go.Proofs.Ytgefbagojghmeaa
