/-
  slices.Reverse of a part of a block of the call's own.
-/
import Derived.Test.YtgefbagojghmeaaRev
import Derived.Test.YtgefbagojghmeaaRowW
namespace Go.Proofs.Ytgefbagojghmeaa
open Go.RowKit

/-- A block's cells, whatever they are. -/
def RowV (g : Nat) (wr : World) (V : List Value) : Prop := wr.heap[g]? = some (.cells V.toArray 3 (0, 0))
section
variable {g : Nat} {wr : World} {V : List Value}
theorem RowV.cell (h : RowV g wr V) {i : Nat} {v : Value} (hi : V[i]? = some v) : wr.cell? ⟨g, i, none⟩ = some v := by
  rw [Lib.cell_of_heap h]
  simpa using hi
theorem RowV.frozen (h : RowV g wr V) (i : Nat) : wr.frozen? ⟨g, i, none⟩ = false := Lib.frozen_of_heap h i
theorem RowV.set (h : RowV g wr V) (i : Nat) (x : Value) : RowV g (wr.setCell ⟨g, i, none⟩ x) (V.set i x) := by
  unfold RowV
  rw [Lib.heap_setCell_same (i := i) h]
  simp
end
theorem RowV.setCells {g : Nat} : ∀ (vs : List Value) (A C : List Value) (w : World) (old : List Value), old.length = vs.length → RowV g w (A ++ old ++ C) → RowV g (w.setCells g A.length vs) (A ++ vs ++ C)
  | [], A, C, w, old, hl, h => by
    have : old = [] := List.eq_nil_of_length_eq_zero hl
    subst this
    exact h
  | v :: r, A, C, w, old, hl, h => by
    cases old with
    | nil => simp at hl
    | cons u old =>
      have h1 := h.set A.length v
      have e1 : (A ++ u :: old ++ C).set A.length v = (A ++ [v]) ++ old ++ C := by
        rw [List.append_assoc, List.set_append_right _ _ (Nat.le_refl _), Nat.sub_self, List.cons_append, List.set_cons_zero]
        simp
      rw [e1] at h1
      have h2 := RowV.setCells r (A ++ [v]) C _ old (by simpa using hl) h1
      rw [List.length_append, List.length_singleton] at h2
      have e2 : A ++ [v] ++ r ++ C = A ++ v :: r ++ C := by simp
      rw [e2] at h2
      exact h2
theorem grown_setCells {g : Nat} {w0 : World} : ∀ (vs : List Value) (o : Nat) (w : World), w0.grownBy w (some g) → w0.grownBy (w.setCells g o vs) (some g)
  | [], _, _, h => h
  | v :: r, o, _, h => grown_setCells r (o + 1) _ (grown_set h o v)

theorem reverse_any (g cap : Nat) (A C : List Value) (zs : List Int) (w : World) (h : RowV g w (A ++ zs.map (Value.int .i64) ++ C)) (hm : zs.length ≤ 1000000) :
    Calls Try.prog 44 #[.slice (some ⟨g, A.length, none⟩) zs.length cap] w fun e w' => e = .returned (.tuple #[]) ∧ RowV g w' (A ++ zs.reverse.map (Value.int .i64) ++ C) ∧ w.grownBy w' (some g) := by
  refine (Try.slices_Reverse_int_cells g A.length zs.length cap zs w (Nat.le_refl _) (by omega) ?_ ?_).mono ?_
  · intro j hj
    refine h.cell ?_
    rw [List.append_assoc, List.getElem?_append_right (by omega), Nat.add_sub_cancel_left, List.getElem?_append_left (by simpa using hj)]
    simp [List.getD, hj]
  · intro j _
    exact h.frozen _
  · rintro e w' ⟨rfl, q, rfl⟩
    have h1 : RowV g (w.drewN q) (A ++ zs.map (Value.int .i64) ++ C) := h
    have h2 := RowV.setCells (zs.reverse.map (Value.int .i64)) A C (w.drewN q) (zs.map (Value.int .i64)) (by simp) h1
    rw [List.take_length]
    exact ⟨rfl, h2, grown_setCells _ _ _ (grown_drew (World.grownBy.refl _ _) q)⟩
end Go.Proofs.Ytgefbagojghmeaa
