/-
  A row of numbers in a block, and what else may have turned.
-/
import Derived.Test.YtgefbagojghmeaaBi8
import Derived.Test.YtgefbagojghmeaaBi3
namespace Go.Proofs.Ytgefbagojghmeaa
open Go.RowKit

def RowW (g : Nat) (wr : World) (L : List Int) : Prop := wr.heap[g]? = some (.cells (L.map (Value.int .i64)).toArray 3 (0, 0))
section
variable {g : Nat} {wr : World} {L : List Int}
theorem RowW.lt (h : RowW g wr L) : g < wr.heap.size := (Array.getElem?_eq_some_iff.1 h).1
theorem RowW.alloc (h : RowW g wr L) (o : Obj) : RowW g (wr.alloc o) L := (Lib.alloc_old wr o g h.lt).trans h
theorem RowW.cell (h : RowW g wr L) {i : Nat} (hi : i < L.length) : wr.cell? ⟨g, i, none⟩ = some (.int .i64 (L.getD i 0)) := by
  rw [Lib.cell_of_heap h]
  simp [List.getD, hi]
theorem RowW.frozen (h : RowW g wr L) (i : Nat) : wr.frozen? ⟨g, i, none⟩ = false := Lib.frozen_of_heap h i
theorem RowW.set (h : RowW g wr L) (i : Nat) (x : Int) : RowW g (wr.setCell ⟨g, i, none⟩ (.int .i64 x)) (L.set i x) := by
  unfold RowW
  rw [Lib.heap_setCell_same (i := i) h, List.map_set]
  simp
theorem grown_set {w wr : World} (h : w.grownBy wr (some g)) (i : Nat) (x : Value) : w.grownBy (wr.setCell ⟨g, i, none⟩ x) (some g) :=
  ⟨h.os, h.tape, h.output, by simpa [World.setCell] using h.size, fun k hk hne => (Below.heap_setCell _ _ _ _ (by intro e; exact hne (by rw [e]))).trans (h.block k hk hne)⟩
theorem grown_alloc {w wr : World} (h : w.grownBy wr (some g)) (o : Obj) : w.grownBy (wr.alloc o) (some g) :=
  ⟨h.os, h.tape, h.output, Nat.le_trans h.size (by simp), fun k hk hne => (Below.heap_alloc _ _ _ (Nat.lt_of_lt_of_le hk h.size)).trans (h.block k hk hne)⟩
theorem grown_below {w wr : World} {B : Nat} (h : w.grownBy wr (some g)) (hB : B ≤ g) (hg : g ≤ w.heap.size) : Below B w wr :=
  ⟨h.os, h.tape, h.output, h.size, fun k hk => h.block k (by omega) (fun e => by cases e; omega)⟩
theorem below_grown {w wr : World} {B : Nat} (h : Below B w wr) (hB : w.heap.size ≤ B) : w.grownBy wr (some g) :=
  ⟨h.os, h.tape, h.output, h.size, fun k hk _ => h.block k (by omega)⟩
theorem grown_drew {w wr : World} (h : w.grownBy wr (some g)) (n : Nat) : w.grownBy (wr.drewN n) (some g) := ⟨h.os, h.tape, h.output, h.size, h.block⟩
end

def FillP (xs : List Int) (g a b e : Nat) (L : List Int) (w : World) (x : Ending) (w' : World) : Prop :=
  x = .returned (.tuple #[]) ∧ RowW g w' (fillF xs (b - a + 1) a b e L) ∧ w.grownBy w' (some g)
end Go.Proofs.Ytgefbagojghmeaa
