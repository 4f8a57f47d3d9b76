/-
  A slice of bytes that comes in as an argument.
-/
import Derived.Test.YtpjafemkdoeflaaLawTokenBlanks
import Derived.ChangeSlices
import Derived.ChangeOld
namespace Go.Proofs.Ytpjafemkdoeflaa
open Go.RowKit Go.ChangeShapes Go.WideShapes Go.ChangeShapes

theorem bytes_in {H : Type} {enc : TypeId × Value → H} {P : Program} {W : World} {t e : TypeId} {b : Option Addr} {len cap : Nat} {d : DataW H} {p : List MemPlace} (ht : P.underlying t = some (.slice e)) (he : P.underlying e = some (.int .u8)) (hc : P.cellsOf e = 1)
    (h : DataW.Trod enc P W 0 (fun _ => true) true t (.slice b len cap) d p) : ∃ xs : List Nat, IsU8 W W.heap.size (.slice b len cap) xs ∧ xs.length ≤ maxLen := by
  obtain ⟨fuel, hf⟩ := h
  rcases open_ints ht he hc hf with ⟨hcs, hx⟩ | ⟨a, len', cap', zs, hcs, _, hl, hm, hz, hx, hcell, hwz⟩
  · simp [Value.cells] at hcs
    obtain ⟨rfl, rfl, rfl⟩ := hcs
    exact ⟨[], ⟨none, 0, rfl, fun h => absurd h (by simp)⟩, by simp⟩
  · simp [Value.cells] at hcs
    obtain ⟨rfl, rfl, rfl⟩ := hcs
    simp only [if_true] at hz
    have hlen : ((zs.take len).map Int.toNat).length = len := by rw [List.length_map, List.length_take]; omega
    refine ⟨(zs.take len).map Int.toNat, ⟨some a, cap, by rw [hlen], fun h0 => ?_⟩, by omega⟩
    rw [hlen] at h0
    obtain ⟨blk, off, spot⟩ := a
    have hspot : spot = none := by simpa [Addr.add] using World.cell?_spot (hcell 0 (by omega))
    subst hspot
    refine ⟨blk, off, rfl, ?_, fun i hi => ?_⟩
    · have := hcell 0 (by omega)
      exact World.block_lt_of_cell? W ⟨blk, off, none⟩ (by simpa [Addr.add] using this)
    · rw [hlen] at hi
      have hiz : i < zs.length := by omega
      have hw := hwz zs[i] (List.getElem_mem hiz)
      have := hcell i (by omega)
      have e0 : zs.getD i 0 = zs[i] := by simp [List.getD, hiz]
      have e1 : ((zs.take len).map Int.toNat).getD i 0 = zs[i].toNat := by simp [List.getD, hi, hiz]
      rw [e0] at this
      simp [Lit.wf, IntKind.min, IntKind.max, IntKind.signed, IntKind.bits] at hw
      rw [e1]
      refine ⟨by omega, ?_⟩
      rw [show ((zs[i].toNat : Nat) : Int) = zs[i] by omega, ← this]
      congr 1
      unfold Addr.add
      split <;> simp_all
end Go.Proofs.Ytpjafemkdoeflaa
