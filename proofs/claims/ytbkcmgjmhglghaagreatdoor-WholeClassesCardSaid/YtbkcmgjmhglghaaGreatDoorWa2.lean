/-
  decide's tracker: read, holds.
-/
import Derived.Test.YtbkcmgjmhglghaaGreatDoorWa1
import Derived.Lib.BufferMore
import Derived.Deep.RegionHeld3
import Derived.Deep.DrawnRows
import Derived.Deep.DeepCutAuto
import Derived.Deep.CutBlock
namespace Go.Proofs.YtbkcmgjmhglghaaGreatDoor
open Go.RowKit

theorem tr_cells {W : World} {g : Nat} {a b : Int} (h : W.heap[g]? = some (.cells #[.int .i64 a, .int .i64 b] 70 (0, 0))) : W.cell? ⟨g, 0, none⟩ = some (.int .i64 a) ∧ W.cell? ⟨g, 1, none⟩ = some (.int .i64 b) := by
  refine ⟨?_, ?_⟩
  all_goals
    rw [Lib.cell_of_heap h]
    rfl
theorem row2 {W : World} {g : Nat} {a0 a1 : Value} {t : TypeId} (h : W.heap[g]? = some (.cells #[a0, a1] t (0, 0))) :
    W.cell? ⟨g, 0, none⟩ = some a0 ∧ W.frozen? ⟨g, 0, none⟩ = false ∧ W.cell? ⟨g, 1, none⟩ = some a1 ∧ W.frozen? ⟨g, 1, none⟩ = false := by
  refine ⟨?_, Lib.frozen_of_heap h 0, ?_, Lib.frozen_of_heap h 1⟩
  · rw [Lib.cell_of_heap h]; rfl
  · rw [Lib.cell_of_heap h]; rfl
theorem alloc3 (w : World) (c1 c2 c3 : Array Value) (t1 t2 t3 : TypeId) :
    (((w.alloc (.cells c1 t1)).alloc (.cells c2 t2)).alloc (.cells c3 t3)).heap[w.heap.size]? = some (.cells c1 t1 (0, 0)) ∧
    (((w.alloc (.cells c1 t1)).alloc (.cells c2 t2)).alloc (.cells c3 t3)).heap[w.heap.size + 1]? = some (.cells c2 t2 (0, 0)) ∧
    (((w.alloc (.cells c1 t1)).alloc (.cells c2 t2)).alloc (.cells c3 t3)).heap[w.heap.size + 2]? = some (.cells c3 t3 (0, 0)) ∧
    Below w.heap.size w (((w.alloc (.cells c1 t1)).alloc (.cells c2 t2)).alloc (.cells c3 t3)) ∧ (((w.alloc (.cells c1 t1)).alloc (.cells c2 t2)).alloc (.cells c3 t3)).heap.size = w.heap.size + 3 := by
  have s1 : (w.alloc (.cells c1 t1)).heap.size = w.heap.size + 1 := by simp
  have s2 : ((w.alloc (.cells c1 t1)).alloc (.cells c2 t2)).heap.size = w.heap.size + 2 := by simp
  have b1 := (Below.refl (w.alloc (.cells c1 t1)).heap.size (w.alloc (.cells c1 t1))).alloc (Nat.le_refl _) (.cells c2 t2)
  have b2 := (Below.refl ((w.alloc (.cells c1 t1)).alloc (.cells c2 t2)).heap.size ((w.alloc (.cells c1 t1)).alloc (.cells c2 t2))).alloc (Nat.le_refl _) (.cells c3 t3)
  have b0 := (Below.refl w.heap.size w).alloc (Nat.le_refl _) (.cells c1 t1)
  have h1 := heap_alloc_new w (.cells c1 t1)
  have h2 := heap_alloc_new (w.alloc (.cells c1 t1)) (.cells c2 t2)
  have h3 := heap_alloc_new ((w.alloc (.cells c1 t1)).alloc (.cells c2 t2)) (.cells c3 t3)
  rw [s1] at h2
  rw [s2] at h3
  refine ⟨?_, ?_, h3, b0.trans ((b1.trans (b2.mono (by omega))).mono (by omega)), by simp⟩
  · rw [b2.block _ (by omega), b1.block _ (by omega)]; exact h1
  · rw [b2.block _ (by omega)]; exact h2

/-- The end of a walk of read: the result's block takes the tracker. -/
theorem set2 {X : World} {g : Nat} {x0 x1 v0 v1 : Value} {t : TypeId} (h : X.heap[g]? = some (.cells #[x0, x1] t (0, 0))) : ((X.setCell ⟨g, 0, none⟩ v0).setCell ⟨g, 1, none⟩ v1).heap[g]? = some (.cells #[v0, v1] t (0, 0)) := by
  have s1 := Lib.heap_setCell_same (i := 0) (v := v0) h
  exact Lib.heap_setCell_same (i := 1) (v := v1) s1

set_option maxRecDepth 100000 in
set_option maxHeartbeats 1600000 in
theorem trRead_any (op md : Int) (nt : Bool) (sv : Value) (sp : List Sp) (a b : Int) (bh : Bool) (d : Nat) (B : Nat) (w : World) (hv : IsSpans w B sv sp) (hB : B ≤ w.heap.size) (hr : relB ⟨op, md, nt, sp⟩ = true) (ha : 0 ≤ a ∧ a ≤ 101) (hb : 0 ≤ b ∧ b ≤ 101) (hd : d < 10) :
    Calls Tryz.prog 56 #[.agg #[.int .i64 a, .int .i64 b], .agg #[.int .i64 op, .int .i64 md, .bool nt, sv], .bool bh, .int .i64 d] w fun e w' =>
      e = .returned (.agg #[.int .i64 (trRead ⟨op, md, nt, sp⟩ (a, b) bh d).1, .int .i64 (trRead ⟨op, md, nt, sp⟩ (a, b) bh d).2]) ∧ Below w.heap.size w w' := by
  have ho := relB_op hr
  simp only at ho
  have hg := fun (W : World) (hw : Below w.heap.size w W) (x : Int) (hx0 : 0 ≤ x) => reduced_any op md nt sv sp x B W (by exact hv.imp (Nat.le_refl _) fun b o hB' h i x hx => ⟨(hw.cell (p := ⟨b, o + i * 2, none⟩) (by show b < w.heap.size; omega)).trans (h i x hx).1, (hw.cell (p := ⟨b, o + i * 2 + 1, none⟩) (by show b < w.heap.size; omega)).trans (h i x hx).2⟩) (Nat.le_trans hB hw.size) hr hx0
  have hrr := fun x (hx : (0 : Int) ≤ x) => red_range hr hx
  generalize hR : red ⟨op, md, nt, sp⟩ = R at *
  have HG := Lib.hid hg
  have HRR := Lib.hid hrr
  have HR := Lib.hid hR
  clear hv hr hg hR hrr
  obtain ⟨ha0, ha1⟩ := ha
  obtain ⟨hb0, hb1⟩ := hb
  obtain ⟨p0, p1, p2, pb, ps⟩ := alloc3 w #[.int .i64 a, .int .i64 b] #[.int .i64 op, .int .i64 md, .bool nt, sv] #[.int .i64 0, .int .i64 0] 70 51 70
  go_enter Tryz.func56, Tryz.ntmps56
  go_upto_region 1 with fail
  obtain ⟨w1, hw1⟩ : ∃ w1, w1 = (((w.alloc (.cells #[.int .i64 a, .int .i64 b] 70)).alloc (.cells #[.int .i64 op, .int .i64 md, .bool nt, sv] 51)).alloc (.cells #[.int .i64 0, .int .i64 0] 70)) := ⟨_, rfl⟩
  rw [← hw1] at p0 p1 p2 pb ps
  rw [← hw1]
  clear hw1
  obtain ⟨c0, f0, c1, f1⟩ := row2 p0
  obtain ⟨d0, g0, d1, g1⟩ := row2 p2
  obtain ⟨r0, r1, r2, r3⟩ := rel_cells p1
  have P0 := Lib.hid p0
  have P1 := Lib.hid p1
  have P2 := Lib.hid p2
  have PB := Lib.hid pb
  have PS := Lib.hid ps
  clear p0 p1 p2 pb ps
  by_cases o1 : op = 1
  · subst o1
    cases bh with
    | false =>
      go_wp2_with fail
      refine (HG.out _ PB.out _ (by omega)).mono ?_
      rintro e w5 ⟨rfl, hb5⟩
      have h4 := (hb5.block w.heap.size (by have := PS.out; omega)).trans P0.out
      have h8 := (hb5.block (w.heap.size + 2) (by have := PS.out; omega)).trans P2.out
      have h5 := (hb5.block (w.heap.size + 1) (by have := PS.out; omega)).trans P1.out
      clear c0 f0 c1 f1 d0 g0 d1 g1 r0 r1 r2 r3
      obtain ⟨c0, f0, c1, f1⟩ := row2 h4
      obtain ⟨d0, g0, d1, g1⟩ := row2 h8
      obtain ⟨r0, r1, r2, r3⟩ := rel_cells h5
      have HB := Lib.hid (PB.out.trans (hb5.mono PB.out.size))
      have H8 := Lib.hid h8
      clear hb5 h4 h8 h5
      go_wp2
      refine bodyPost_ret (results_cell_row rfl _ _ (w.heap.size + 2) _ _ _ _ rfl (set2 ((heap_setCell_other _ _ _ _ (by simp <;> omega)).trans H8.out)) Tryz.underlying70 rfl (by kernel_rfl)) rfl ?_
      refine ⟨by simp [trRead, HR.out], ?_⟩
      exact (((HB.out.setCell (p := _) (by simp <;> omega) _).setCell (p := _) (by simp <;> omega) _).setCell (p := _) (by simp <;> omega) _)
    | true =>
      by_cases hd0 : d = 0
      · subst hd0
        go_wp2
        refine bodyPost_ret (results_cell_row rfl _ _ (w.heap.size + 2) _ _ _ _ rfl (set2 P2.out) Tryz.underlying70 rfl (by kernel_rfl)) rfl ?_
        refine ⟨by simp [trRead], ?_⟩
        exact ((PB.out.setCell (p := _) (by simp <;> omega) _).setCell (p := _) (by simp <;> omega) _)
      · have e0 : (((d : Nat) : Int) == 0) = false := by simp; omega
        have e1 : (((d : Nat) : Int) != 0) = true := by simp; omega
        go_wp2
        refine bodyPost_ret (results_cell_row rfl _ _ (w.heap.size + 2) _ _ _ _ rfl (set2 ((heap_setCell_other _ _ _ _ (by simp <;> omega)).trans P2.out)) Tryz.underlying70 rfl (by kernel_rfl)) rfl ?_
        refine ⟨by simp [trRead, hd0], ?_⟩
        exact (((PB.out.setCell (p := _) (by simp <;> omega) _).setCell (p := _) (by simp <;> omega) _).setCell (p := _) (by simp <;> omega) _)
  by_cases o2 : op = 2
  · subst o2
    cases bh with
    | false =>
      go_wp2_with fail
      refine (HG.out _ PB.out _ (by omega)).mono ?_
      rintro e w5 ⟨rfl, hb5⟩
      have h4 := (hb5.block w.heap.size (by have := PS.out; omega)).trans P0.out
      have h8 := (hb5.block (w.heap.size + 2) (by have := PS.out; omega)).trans P2.out
      have h5 := (hb5.block (w.heap.size + 1) (by have := PS.out; omega)).trans P1.out
      clear c0 f0 c1 f1 d0 g0 d1 g1 r0 r1 r2 r3
      obtain ⟨c0, f0, c1, f1⟩ := row2 h4
      obtain ⟨d0, g0, d1, g1⟩ := row2 h8
      obtain ⟨r0, r1, r2, r3⟩ := rel_cells h5
      have HB := Lib.hid (PB.out.trans (hb5.mono PB.out.size))
      have H8 := Lib.hid h8
      clear hb5 h4 h8 h5
      go_wp2
      refine bodyPost_ret (results_cell_row rfl _ _ (w.heap.size + 2) _ _ _ _ rfl (set2 ((heap_setCell_other _ _ _ _ (by simp <;> omega)).trans H8.out)) Tryz.underlying70 rfl (by kernel_rfl)) rfl ?_
      refine ⟨by simp [trRead, HR.out], ?_⟩
      exact (((HB.out.setCell (p := _) (by simp <;> omega) _).setCell (p := _) (by simp <;> omega) _).setCell (p := _) (by simp <;> omega) _)
    | true =>
      by_cases hd0 : d = 0
      · subst hd0
        go_wp2
        refine bodyPost_ret (results_cell_row rfl _ _ (w.heap.size + 2) _ _ _ _ rfl (set2 P2.out) Tryz.underlying70 rfl (by kernel_rfl)) rfl ?_
        refine ⟨by simp [trRead], ?_⟩
        exact ((PB.out.setCell (p := _) (by simp <;> omega) _).setCell (p := _) (by simp <;> omega) _)
      · have e0 : (((d : Nat) : Int) == 0) = false := by simp; omega
        have e1 : (((d : Nat) : Int) != 0) = true := by simp; omega
        go_wp2
        refine bodyPost_ret (results_cell_row rfl _ _ (w.heap.size + 2) _ _ _ _ rfl (set2 P2.out) Tryz.underlying70 rfl (by kernel_rfl)) rfl ?_
        refine ⟨by simp [trRead, hd0], ?_⟩
        exact ((PB.out.setCell (p := _) (by simp <;> omega) _).setCell (p := _) (by simp <;> omega) _)
  by_cases o3 : op = 3
  · subst o3
    cases bh with
    | false =>
      go_wp2
      refine bodyPost_ret (results_cell_row rfl _ _ (w.heap.size + 2) _ _ _ _ rfl (set2 P2.out) Tryz.underlying70 rfl (by kernel_rfl)) rfl ?_
      refine ⟨by simp [trRead], ?_⟩
      exact ((PB.out.setCell (p := _) (by simp <;> omega) _).setCell (p := _) (by simp <;> omega) _)
    | true =>
      by_cases hd0 : d = 0
      · subst hd0
        go_wp2_with fail
        refine (HG.out _ PB.out _ (by omega)).mono ?_
        rintro e w5 ⟨rfl, hb5⟩
        have h4 := (hb5.block w.heap.size (by have := PS.out; omega)).trans P0.out
        have h8 := (hb5.block (w.heap.size + 2) (by have := PS.out; omega)).trans P2.out
        have h5 := (hb5.block (w.heap.size + 1) (by have := PS.out; omega)).trans P1.out
        clear c0 f0 c1 f1 d0 g0 d1 g1 r0 r1 r2 r3
        obtain ⟨c0, f0, c1, f1⟩ := row2 h4
        obtain ⟨d0, g0, d1, g1⟩ := row2 h8
        obtain ⟨r0, r1, r2, r3⟩ := rel_cells h5
        have HB := Lib.hid (PB.out.trans (hb5.mono PB.out.size))
        have H8 := Lib.hid h8
        clear hb5 h4 h8 h5
        go_wp2
        refine bodyPost_ret (results_cell_row rfl _ _ (w.heap.size + 2) _ _ _ _ rfl (set2 ((heap_setCell_other _ _ _ _ (by simp <;> omega)).trans ((heap_setCell_other _ _ _ _ (by simp <;> omega)).trans H8.out))) Tryz.underlying70 rfl (by kernel_rfl)) rfl ?_
        refine ⟨by simp [trRead, HR.out], ?_⟩
        exact ((((HB.out.setCell (p := _) (by simp <;> omega) _).setCell (p := _) (by simp <;> omega) _).setCell (p := _) (by simp <;> omega) _).setCell (p := _) (by simp <;> omega) _)
      · have e0 : (((d : Nat) : Int) == 0) = false := by simp; omega
        have e1 : (((d : Nat) : Int) != 0) = true := by simp; omega
        go_wp2_with fail
        refine (HG.out _ PB.out _ (by omega)).mono ?_
        rintro e w5 ⟨rfl, hb5⟩
        have h4 := (hb5.block w.heap.size (by have := PS.out; omega)).trans P0.out
        have h8 := (hb5.block (w.heap.size + 2) (by have := PS.out; omega)).trans P2.out
        have h5 := (hb5.block (w.heap.size + 1) (by have := PS.out; omega)).trans P1.out
        clear c0 f0 c1 f1 d0 g0 d1 g1 r0 r1 r2 r3
        obtain ⟨c0, f0, c1, f1⟩ := row2 h4
        obtain ⟨d0, g0, d1, g1⟩ := row2 h8
        obtain ⟨r0, r1, r2, r3⟩ := rel_cells h5
        have HB := Lib.hid (PB.out.trans (hb5.mono PB.out.size))
        have H8 := Lib.hid h8
        clear hb5 h4 h8 h5
        go_wp2
        refine bodyPost_ret (results_cell_row rfl _ _ (w.heap.size + 2) _ _ _ _ rfl (set2 ((heap_setCell_other _ _ _ _ (by simp <;> omega)).trans ((heap_setCell_other _ _ _ _ (by simp <;> omega)).trans H8.out))) Tryz.underlying70 rfl (by kernel_rfl)) rfl ?_
        refine ⟨by simp [trRead, HR.out, hd0], ?_⟩
        exact ((((HB.out.setCell (p := _) (by simp <;> omega) _).setCell (p := _) (by simp <;> omega) _).setCell (p := _) (by simp <;> omega) _).setCell (p := _) (by simp <;> omega) _)
  by_cases o4 : op = 4
  · subst o4
    cases bh with
    | false =>
      go_wp2
      refine bodyPost_ret (results_cell_row rfl _ _ (w.heap.size + 2) _ _ _ _ rfl (set2 P2.out) Tryz.underlying70 rfl (by kernel_rfl)) rfl ?_
      refine ⟨by simp [trRead], ?_⟩
      exact ((PB.out.setCell (p := _) (by simp <;> omega) _).setCell (p := _) (by simp <;> omega) _)
    | true =>
      by_cases hd0 : d = 0
      · subst hd0
        go_wp2_with fail
        refine (HG.out _ PB.out _ (by omega)).mono ?_
        rintro e w5 ⟨rfl, hb5⟩
        have h4 := (hb5.block w.heap.size (by have := PS.out; omega)).trans P0.out
        have h8 := (hb5.block (w.heap.size + 2) (by have := PS.out; omega)).trans P2.out
        have h5 := (hb5.block (w.heap.size + 1) (by have := PS.out; omega)).trans P1.out
        clear c0 f0 c1 f1 d0 g0 d1 g1 r0 r1 r2 r3
        obtain ⟨c0, f0, c1, f1⟩ := row2 h4
        obtain ⟨d0, g0, d1, g1⟩ := row2 h8
        obtain ⟨r0, r1, r2, r3⟩ := rel_cells h5
        have HB := Lib.hid (PB.out.trans (hb5.mono PB.out.size))
        have H8 := Lib.hid h8
        clear hb5 h4 h8 h5
        go_wp2
        refine bodyPost_ret (results_cell_row rfl _ _ (w.heap.size + 2) _ _ _ _ rfl (set2 ((heap_setCell_other _ _ _ _ (by simp <;> omega)).trans H8.out)) Tryz.underlying70 rfl (by kernel_rfl)) rfl ?_
        refine ⟨by simp [trRead, HR.out], ?_⟩
        exact (((HB.out.setCell (p := _) (by simp <;> omega) _).setCell (p := _) (by simp <;> omega) _).setCell (p := _) (by simp <;> omega) _)
      · have e0 : (((d : Nat) : Int) == 0) = false := by simp; omega
        have e1 : (((d : Nat) : Int) != 0) = true := by simp; omega
        go_wp2_with fail
        refine (HG.out _ PB.out _ (by omega)).mono ?_
        rintro e w5 ⟨rfl, hb5⟩
        have h4 := (hb5.block w.heap.size (by have := PS.out; omega)).trans P0.out
        have h8 := (hb5.block (w.heap.size + 2) (by have := PS.out; omega)).trans P2.out
        have h5 := (hb5.block (w.heap.size + 1) (by have := PS.out; omega)).trans P1.out
        clear c0 f0 c1 f1 d0 g0 d1 g1 r0 r1 r2 r3
        obtain ⟨c0, f0, c1, f1⟩ := row2 h4
        obtain ⟨d0, g0, d1, g1⟩ := row2 h8
        obtain ⟨r0, r1, r2, r3⟩ := rel_cells h5
        have HB := Lib.hid (PB.out.trans (hb5.mono PB.out.size))
        have H8 := Lib.hid h8
        clear hb5 h4 h8 h5
        go_wp2
        refine bodyPost_ret (results_cell_row rfl _ _ (w.heap.size + 2) _ _ _ _ rfl (set2 ((heap_setCell_other _ _ _ _ (by simp <;> omega)).trans ((heap_setCell_other _ _ _ _ (by simp <;> omega)).trans H8.out))) Tryz.underlying70 rfl (by kernel_rfl)) rfl ?_
        refine ⟨by simp [trRead, HR.out, hd0], ?_⟩
        exact ((((HB.out.setCell (p := _) (by simp <;> omega) _).setCell (p := _) (by simp <;> omega) _).setCell (p := _) (by simp <;> omega) _).setCell (p := _) (by simp <;> omega) _)
  by_cases o5 : op = 5
  · subst o5
    cases bh with
    | false =>
      go_wp2
      refine bodyPost_ret (results_cell_row rfl _ _ (w.heap.size + 2) _ _ _ _ rfl (set2 P2.out) Tryz.underlying70 rfl (by kernel_rfl)) rfl ?_
      refine ⟨by simp [trRead], ?_⟩
      exact ((PB.out.setCell (p := _) (by simp <;> omega) _).setCell (p := _) (by simp <;> omega) _)
    | true =>
      by_cases hd0 : d = 0
      · subst hd0
        go_wp2_with fail
        refine (HG.out _ PB.out _ (by omega)).mono ?_
        rintro e w5 ⟨rfl, hb5⟩
        have h4 := (hb5.block w.heap.size (by have := PS.out; omega)).trans P0.out
        have h8 := (hb5.block (w.heap.size + 2) (by have := PS.out; omega)).trans P2.out
        have h5 := (hb5.block (w.heap.size + 1) (by have := PS.out; omega)).trans P1.out
        clear c0 f0 c1 f1 d0 g0 d1 g1 r0 r1 r2 r3
        obtain ⟨c0, f0, c1, f1⟩ := row2 h4
        obtain ⟨d0, g0, d1, g1⟩ := row2 h8
        obtain ⟨r0, r1, r2, r3⟩ := rel_cells h5
        have HB := Lib.hid (PB.out.trans (hb5.mono PB.out.size))
        have H8 := Lib.hid h8
        clear hb5 h4 h8 h5
        go_wp2
        refine bodyPost_ret (results_cell_row rfl _ _ (w.heap.size + 2) _ _ _ _ rfl (set2 ((heap_setCell_other _ _ _ _ (by simp <;> omega)).trans ((heap_setCell_other _ _ _ _ (by simp <;> omega)).trans H8.out))) Tryz.underlying70 rfl (by kernel_rfl)) rfl ?_
        refine ⟨by simp [trRead, HR.out], ?_⟩
        exact ((((HB.out.setCell (p := _) (by simp <;> omega) _).setCell (p := _) (by simp <;> omega) _).setCell (p := _) (by simp <;> omega) _).setCell (p := _) (by simp <;> omega) _)
      · have e0 : (((d : Nat) : Int) == 0) = false := by simp; omega
        have e1 : (((d : Nat) : Int) != 0) = true := by simp; omega
        go_wp2_with fail
        refine (HG.out _ PB.out _ (by omega)).mono ?_
        rintro e w5 ⟨rfl, hb5⟩
        have h4 := (hb5.block w.heap.size (by have := PS.out; omega)).trans P0.out
        have h8 := (hb5.block (w.heap.size + 2) (by have := PS.out; omega)).trans P2.out
        have h5 := (hb5.block (w.heap.size + 1) (by have := PS.out; omega)).trans P1.out
        clear c0 f0 c1 f1 d0 g0 d1 g1 r0 r1 r2 r3
        obtain ⟨c0, f0, c1, f1⟩ := row2 h4
        obtain ⟨d0, g0, d1, g1⟩ := row2 h8
        obtain ⟨r0, r1, r2, r3⟩ := rel_cells h5
        have HB := Lib.hid (PB.out.trans (hb5.mono PB.out.size))
        have H8 := Lib.hid h8
        clear hb5 h4 h8 h5
        go_wp2
        refine bodyPost_ret (results_cell_row rfl _ _ (w.heap.size + 2) _ _ _ _ rfl (set2 ((heap_setCell_other _ _ _ _ (by simp <;> omega)).trans ((heap_setCell_other _ _ _ _ (by simp <;> omega)).trans H8.out))) Tryz.underlying70 rfl (by kernel_rfl)) rfl ?_
        refine ⟨by simp [trRead, HR.out, hd0], ?_⟩
        exact ((((HB.out.setCell (p := _) (by simp <;> omega) _).setCell (p := _) (by simp <;> omega) _).setCell (p := _) (by simp <;> omega) _).setCell (p := _) (by simp <;> omega) _)
  by_cases o6 : op = 6
  · subst o6
    cases bh with
    | false =>
      go_wp2
      refine bodyPost_ret (results_cell_row rfl _ _ (w.heap.size + 2) _ _ _ _ rfl (set2 P2.out) Tryz.underlying70 rfl (by kernel_rfl)) rfl ?_
      refine ⟨by simp [trRead], ?_⟩
      exact ((PB.out.setCell (p := _) (by simp <;> omega) _).setCell (p := _) (by simp <;> omega) _)
    | true =>
      by_cases hd0 : d = 0
      · subst hd0
        go_wp2_with fail
        refine (HG.out _ PB.out _ (by omega)).mono ?_
        rintro e w5 ⟨rfl, hb5⟩
        have h4 := (hb5.block w.heap.size (by have := PS.out; omega)).trans P0.out
        have h8 := (hb5.block (w.heap.size + 2) (by have := PS.out; omega)).trans P2.out
        have h5 := (hb5.block (w.heap.size + 1) (by have := PS.out; omega)).trans P1.out
        clear c0 f0 c1 f1 d0 g0 d1 g1 r0 r1 r2 r3
        obtain ⟨c0, f0, c1, f1⟩ := row2 h4
        obtain ⟨d0, g0, d1, g1⟩ := row2 h8
        obtain ⟨r0, r1, r2, r3⟩ := rel_cells h5
        have HB := Lib.hid (PB.out.trans (hb5.mono PB.out.size))
        have H8 := Lib.hid h8
        clear hb5 h4 h8 h5
        go_wp2
        refine bodyPost_ret (results_cell_row rfl _ _ (w.heap.size + 2) _ _ _ _ rfl (set2 ((heap_setCell_other _ _ _ _ (by simp <;> omega)).trans H8.out)) Tryz.underlying70 rfl (by kernel_rfl)) rfl ?_
        refine ⟨by simp [trRead, HR.out], ?_⟩
        exact (((HB.out.setCell (p := _) (by simp <;> omega) _).setCell (p := _) (by simp <;> omega) _).setCell (p := _) (by simp <;> omega) _)
      · have e0 : (((d : Nat) : Int) == 0) = false := by simp; omega
        have e1 : (((d : Nat) : Int) != 0) = true := by simp; omega
        go_wp2_with fail
        refine (HG.out _ PB.out _ (by omega)).mono ?_
        rintro e w5 ⟨rfl, hb5⟩
        have h4 := (hb5.block w.heap.size (by have := PS.out; omega)).trans P0.out
        have h8 := (hb5.block (w.heap.size + 2) (by have := PS.out; omega)).trans P2.out
        have h5 := (hb5.block (w.heap.size + 1) (by have := PS.out; omega)).trans P1.out
        clear c0 f0 c1 f1 d0 g0 d1 g1 r0 r1 r2 r3
        obtain ⟨c0, f0, c1, f1⟩ := row2 h4
        obtain ⟨d0, g0, d1, g1⟩ := row2 h8
        obtain ⟨r0, r1, r2, r3⟩ := rel_cells h5
        have HB := Lib.hid (PB.out.trans (hb5.mono PB.out.size))
        have H8 := Lib.hid h8
        clear hb5 h4 h8 h5
        go_wp2
        refine bodyPost_ret (results_cell_row rfl _ _ (w.heap.size + 2) _ _ _ _ rfl (set2 ((heap_setCell_other _ _ _ _ (by simp <;> omega)).trans ((heap_setCell_other _ _ _ _ (by simp <;> omega)).trans H8.out))) Tryz.underlying70 rfl (by kernel_rfl)) rfl ?_
        refine ⟨by simp [trRead, HR.out, hd0], ?_⟩
        exact ((((HB.out.setCell (p := _) (by simp <;> omega) _).setCell (p := _) (by simp <;> omega) _).setCell (p := _) (by simp <;> omega) _).setCell (p := _) (by simp <;> omega) _)
  exfalso
  omega
end Go.Proofs.YtbkcmgjmhglghaaGreatDoor
