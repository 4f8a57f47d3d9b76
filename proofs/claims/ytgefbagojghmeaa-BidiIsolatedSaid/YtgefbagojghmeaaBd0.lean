/-
  A struct of three cells in a block T, its second cell a row of the call's own, and a second row of the call's own.
-/
import Derived.Test.YtgefbagojghmeaaIs4
import Derived.Laws.OwnMore
import Derived.Lib.BufferMore
namespace Go.Proofs.Ytgefbagojghmeaa
open Go.RowKit

theorem row_cell {w : World} {B : Nat} {e : TypeId} {g n cap : Nat} {xs : List Value} (h : w.ownsRow B e 1 (.slice (some ⟨g, 0, none⟩) n cap) n xs) (j : Nat) (v : Value) (hv : xs[j]? = some v) : w.cell? ⟨g, j, none⟩ = some v := by
  have := h.cells (g := g) rfl j v hv
  have e : (⟨g, 0, none⟩ : Addr).add j = ⟨g, j, none⟩ := by unfold Addr.add; split <;> simp_all
  rwa [e] at this
structure RdW (T : Nat) (w1 wr : World) (l : Value) (ev : Value) (m : Nat) (D : Value) (E : List Value) (ov : Value) (q : Nat) (O : List Value) : Prop where
  hT : wr.heap[T]? = some (.cells #[l, ev, D] 49 (0, 0))
  hE : wr.ownsRow (T + 1) 3 1 ev m E
  hO : wr.ownsRow (T + 1) 3 1 ov q O
  hne : ev.ownBlock = none ∨ ev.ownBlock ≠ ov.ownBlock
  hbel : Below T w1 wr

section
variable {T : Nat} {w1 wr : World} {l ev : Value} {m : Nat} {D : Value} {E : List Value} {ov : Value} {q : Nat} {O : List Value}
theorem RdW.lt (h : RdW T w1 wr l ev m D E ov q O) : T < wr.heap.size := (Array.getElem?_eq_some_iff.1 h.hT).1
theorem RdW.c0 (h : RdW T w1 wr l ev m D E ov q O) : wr.cell? ⟨T, 0, none⟩ = some l := by rw [Lib.cell_of_heap h.hT]; rfl
theorem RdW.c1 (h : RdW T w1 wr l ev m D E ov q O) : wr.cell? ⟨T, 1, none⟩ = some ev := by rw [Lib.cell_of_heap h.hT]; rfl
theorem RdW.c2 (h : RdW T w1 wr l ev m D E ov q O) : wr.cell? ⟨T, 2, none⟩ = some D := by rw [Lib.cell_of_heap h.hT]; rfl
theorem RdW.f (h : RdW T w1 wr l ev m D E ov q O) (i : Nat) : wr.frozen? ⟨T, i, none⟩ = false := Lib.frozen_of_heap h.hT i
theorem RdW.alloc (h : RdW T w1 wr l ev m D E ov q O) (o : Obj) : RdW T w1 (wr.alloc o) l ev m D E ov q O :=
  ⟨(Lib.alloc_old wr o T h.lt).trans h.hT, h.hE.alloc o, h.hO.alloc o, h.hne, h.hbel.alloc (Nat.le_of_lt h.lt) o⟩
theorem RdW.setT (h : RdW T w1 wr l ev m D E ov q O) (D' : Value) : RdW T w1 (wr.setCell ⟨T, 2, none⟩ D') l ev m D' E ov q O :=
  ⟨Lib.heap_setCell_same (i := 2) h.hT D', ownsRow_setCell_below h.hE (Nat.lt_succ_self T) _, ownsRow_setCell_below h.hO (Nat.lt_succ_self T) _, h.hne, h.hbel.setCell (p := ⟨T, 2, none⟩) (Nat.le_refl _) _⟩
/-- The second cell's row grew: then it is stored. -/
theorem RdW.pushE (h : RdW T w1 wr l ev m D E ov q O) {w2 : World} {g cap : Nat} {y : Value} (hE2 : w2.ownsRow (T + 1) 3 1 (.slice (some ⟨g, 0, none⟩) (m + 1) cap) (m + 1) (E ++ [y])) (hg : wr.grownBy w2 ev.ownBlock) (hgr : ev.ownBlock = some g ∨ g = wr.heap.size) :
    RdW T w1 (w2.setCell ⟨T, 1, none⟩ (.slice (some ⟨g, 0, none⟩) (m + 1) cap)) l (.slice (some ⟨g, 0, none⟩) (m + 1) cap) (m + 1) D (E ++ [y]) ov q O := by
  have hT2 : w2.heap[T]? = some (.cells #[l, ev, D] 49 (0, 0)) := by
    rw [hg.block T h.lt ?_]
    · exact h.hT
    · intro e
      have := (h.hE.lt T e.symm).1
      omega
  refine ⟨Lib.heap_setCell_same (i := 1) hT2 _, ownsRow_setCell_below hE2 (Nat.lt_succ_self T) _, ownsRow_setCell_below (h.hO.kept hg ?_) (Nat.lt_succ_self T) _, .inr ?_, (h.hbel.grown hg (Nat.le_of_lt h.lt) (fun k hk => by have := (h.hE.lt k hk).1; omega)).setCell (p := ⟨T, 1, none⟩) (Nat.le_refl _) _⟩
  · by_cases ho : ov.ownBlock = none
    · exact .inl ho
    · refine .inr fun e => ?_
      rcases h.hne with h1 | h1
      · rw [h1] at e; exact ho e
      · exact h1 e.symm
  · intro e
    have e : some g = ov.ownBlock := e
    rcases hgr with h1 | h1
    · rcases h.hne with h2 | h2
      · rw [h1] at h2; cases h2
      · exact h2 (h1.trans e)
    · have := (h.hO.lt g e.symm).2
      omega
/-- The second row grew. -/
theorem RdW.pushO (h : RdW T w1 wr l ev m D E ov q O) {w2 : World} {g cap : Nat} {y : Value} (hO2 : w2.ownsRow (T + 1) 3 1 (.slice (some ⟨g, 0, none⟩) (q + 1) cap) (q + 1) (O ++ [y])) (hg : wr.grownBy w2 ov.ownBlock) (hgr : ov.ownBlock = some g ∨ g = wr.heap.size) :
    RdW T w1 w2 l ev m D E (.slice (some ⟨g, 0, none⟩) (q + 1) cap) (q + 1) (O ++ [y]) := by
  refine ⟨?_, h.hE.kept hg h.hne, hO2, ?_, h.hbel.grown hg (Nat.le_of_lt h.lt) (fun k hk => by have := (h.hO.lt k hk).1; omega)⟩
  · rw [hg.block T h.lt ?_]
    · exact h.hT
    · intro e
      have := (h.hO.lt T e.symm).1
      omega
  · rcases h.hne with h1 | h1
    · exact .inl h1
    · refine .inr fun e => ?_
      have e : ev.ownBlock = some g := e
      rcases hgr with h2 | h2
      · exact h1 (e.trans h2.symm)
      · have := (h.hE.lt g e).2
        omega
/-- A cell of the second cell's row is stored. -/
theorem RdW.setE {g cap : Nat} (h : RdW T w1 wr l (.slice (some ⟨g, 0, none⟩) m cap) m D E ov q O) (j : Nat) (u : Value) : RdW T w1 (wr.setCell ⟨g, j, none⟩ u) l (.slice (some ⟨g, 0, none⟩) m cap) m D (E.set j u) ov q O := by
  have hgT : T + 1 ≤ g := (h.hE.lt g rfl).1
  obtain ⟨h1, h2⟩ := h.hE.stored j u
  refine ⟨?_, h1, ownsRow_setCell_other h.hO ?_ _, h.hne, h.hbel.setCell (p := ⟨g, j, none⟩) (by show T ≤ g; omega) _⟩
  · rw [Below.heap_setCell _ _ _ _ (by show T ≠ g; omega)]
    exact h.hT
  · intro e
    rcases h.hne with h1 | h1
    · cases h1
    · exact h1 e.symm
/-- The second row's last cell is taken away. -/
theorem RdW.popO {ao : Option Addr} {cap : Nat} (h : RdW T w1 wr l ev m D E (.slice ao (q + 1) cap) (q + 1) O) : RdW T w1 wr l ev m D E (.slice ao q cap) q O.dropLast :=
  ⟨h.hT, h.hE, own_less h.hO, by cases ao <;> exact h.hne, h.hbel⟩
end
end Go.Proofs.Ytgefbagojghmeaa
