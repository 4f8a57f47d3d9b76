/-
  decide's reading: step.
-/
import Derived.Test.YtbkcmgjmhglghaaGreatDoorWb2
import Derived.Test.YtbkcmgjmhglghaaGreatDoorWa2
import Derived.Test.YtbkcmgjmhglghaaGreatDoorWa3
import Derived.Laws.Tables
import Derived.Laws.CopyOwn
namespace Go.Proofs.YtbkcmgjmhglghaaGreatDoor
open Go.RowKit

theorem Tryz.infoRd : (Tryz.prog.info? 73).map (·.size) = some 13 := by kernel_rfl
def trC (t : Tr) : List Value := [.int .i64 t.1, .int .i64 t.2]
theorem trC_len (t : Tr) : (trC t).length = 2 := rfl
def rdC (s : RS) : List Value := .int .i64 s.1 :: s.2.flatMap trC
def rdV (s : RS) : Value := .agg (rdC s).toArray
theorem rdC_len {s : RS} (h : s.2.length = 6) : (rdC s).length = 13 := by
  unfold rdC
  rw [List.length_cons, flat_len trC 2 trC_len, h]
theorem rdC_one (s : RS) : (rdC s).toArray.all (·.oneCell') = true := by
  rw [List.all_toArray, List.all_eq_true]
  intro v hv
  rcases List.mem_cons.1 hv with rfl | hv
  · rfl
  · obtain ⟨t, _, ht⟩ := List.mem_flatMap.1 hv
    simp [trC] at ht
    rcases ht with rfl | rfl <;> rfl
theorem row13 {W : World} {g : Nat} {x0 x1 x2 x3 x4 x5 x6 x7 x8 x9 x10 x11 x12 : Value} {t : TypeId} (h : W.heap[g]? = some (.cells #[x0, x1, x2, x3, x4, x5, x6, x7, x8, x9, x10, x11, x12] t (0, 0))) :
    W.cell? ⟨g, 0, none⟩ = some x0 ∧ W.frozen? ⟨g, 0, none⟩ = false ∧
    W.cell? ⟨g, 1, none⟩ = some x1 ∧ W.frozen? ⟨g, 1, none⟩ = false ∧
    W.cell? ⟨g, 2, none⟩ = some x2 ∧ W.frozen? ⟨g, 2, none⟩ = false ∧
    W.cell? ⟨g, 3, none⟩ = some x3 ∧ W.frozen? ⟨g, 3, none⟩ = false ∧
    W.cell? ⟨g, 4, none⟩ = some x4 ∧ W.frozen? ⟨g, 4, none⟩ = false ∧
    W.cell? ⟨g, 5, none⟩ = some x5 ∧ W.frozen? ⟨g, 5, none⟩ = false ∧
    W.cell? ⟨g, 6, none⟩ = some x6 ∧ W.frozen? ⟨g, 6, none⟩ = false ∧
    W.cell? ⟨g, 7, none⟩ = some x7 ∧ W.frozen? ⟨g, 7, none⟩ = false ∧
    W.cell? ⟨g, 8, none⟩ = some x8 ∧ W.frozen? ⟨g, 8, none⟩ = false ∧
    W.cell? ⟨g, 9, none⟩ = some x9 ∧ W.frozen? ⟨g, 9, none⟩ = false ∧
    W.cell? ⟨g, 10, none⟩ = some x10 ∧ W.frozen? ⟨g, 10, none⟩ = false ∧
    W.cell? ⟨g, 11, none⟩ = some x11 ∧ W.frozen? ⟨g, 11, none⟩ = false ∧
    W.cell? ⟨g, 12, none⟩ = some x12 ∧ W.frozen? ⟨g, 12, none⟩ = false := by
  refine ⟨?_, ?_, ?_, ?_, ?_, ?_, ?_, ?_, ?_, ?_, ?_, ?_, ?_, ?_, ?_, ?_, ?_, ?_, ?_, ?_, ?_, ?_, ?_, ?_, ?_, ?_⟩
  all_goals first | exact Lib.frozen_of_heap h _ | (rw [Lib.cell_of_heap h]; rfl)
theorem set13 {W : World} {g : Nat} {x0 x1 x2 x3 x4 x5 x6 x7 x8 x9 x10 x11 x12 v0 v1 v2 v3 v4 v5 v6 v7 v8 v9 v10 v11 v12 : Value} {t : TypeId} (h : W.heap[g]? = some (.cells #[x0, x1, x2, x3, x4, x5, x6, x7, x8, x9, x10, x11, x12] t (0, 0))) :
    (((((((((((((W.setCell ⟨g, 0, none⟩ v0).setCell ⟨g, 1, none⟩ v1).setCell ⟨g, 2, none⟩ v2).setCell ⟨g, 3, none⟩ v3).setCell ⟨g, 4, none⟩ v4).setCell ⟨g, 5, none⟩ v5).setCell ⟨g, 6, none⟩ v6).setCell ⟨g, 7, none⟩ v7).setCell ⟨g, 8, none⟩ v8).setCell ⟨g, 9, none⟩ v9).setCell ⟨g, 10, none⟩ v10).setCell ⟨g, 11, none⟩ v11).setCell ⟨g, 12, none⟩ v12).heap[g]? = some (.cells #[v0, v1, v2, v3, v4, v5, v6, v7, v8, v9, v10, v11, v12] t (0, 0)) := by
  have s0 : (W.setCell ⟨g, 0, none⟩ v0).heap[g]? = some (.cells #[v0, x1, x2, x3, x4, x5, x6, x7, x8, x9, x10, x11, x12] t (0, 0)) := Lib.heap_setCell_same (i := 0) h v0
  have s1 : ((W.setCell ⟨g, 0, none⟩ v0).setCell ⟨g, 1, none⟩ v1).heap[g]? = some (.cells #[v0, v1, x2, x3, x4, x5, x6, x7, x8, x9, x10, x11, x12] t (0, 0)) := Lib.heap_setCell_same (i := 1) s0 v1
  clear s0
  have s2 : (((W.setCell ⟨g, 0, none⟩ v0).setCell ⟨g, 1, none⟩ v1).setCell ⟨g, 2, none⟩ v2).heap[g]? = some (.cells #[v0, v1, v2, x3, x4, x5, x6, x7, x8, x9, x10, x11, x12] t (0, 0)) := Lib.heap_setCell_same (i := 2) s1 v2
  clear s1
  have s3 : ((((W.setCell ⟨g, 0, none⟩ v0).setCell ⟨g, 1, none⟩ v1).setCell ⟨g, 2, none⟩ v2).setCell ⟨g, 3, none⟩ v3).heap[g]? = some (.cells #[v0, v1, v2, v3, x4, x5, x6, x7, x8, x9, x10, x11, x12] t (0, 0)) := Lib.heap_setCell_same (i := 3) s2 v3
  clear s2
  have s4 : (((((W.setCell ⟨g, 0, none⟩ v0).setCell ⟨g, 1, none⟩ v1).setCell ⟨g, 2, none⟩ v2).setCell ⟨g, 3, none⟩ v3).setCell ⟨g, 4, none⟩ v4).heap[g]? = some (.cells #[v0, v1, v2, v3, v4, x5, x6, x7, x8, x9, x10, x11, x12] t (0, 0)) := Lib.heap_setCell_same (i := 4) s3 v4
  clear s3
  have s5 : ((((((W.setCell ⟨g, 0, none⟩ v0).setCell ⟨g, 1, none⟩ v1).setCell ⟨g, 2, none⟩ v2).setCell ⟨g, 3, none⟩ v3).setCell ⟨g, 4, none⟩ v4).setCell ⟨g, 5, none⟩ v5).heap[g]? = some (.cells #[v0, v1, v2, v3, v4, v5, x6, x7, x8, x9, x10, x11, x12] t (0, 0)) := Lib.heap_setCell_same (i := 5) s4 v5
  clear s4
  have s6 : (((((((W.setCell ⟨g, 0, none⟩ v0).setCell ⟨g, 1, none⟩ v1).setCell ⟨g, 2, none⟩ v2).setCell ⟨g, 3, none⟩ v3).setCell ⟨g, 4, none⟩ v4).setCell ⟨g, 5, none⟩ v5).setCell ⟨g, 6, none⟩ v6).heap[g]? = some (.cells #[v0, v1, v2, v3, v4, v5, v6, x7, x8, x9, x10, x11, x12] t (0, 0)) := Lib.heap_setCell_same (i := 6) s5 v6
  clear s5
  have s7 : ((((((((W.setCell ⟨g, 0, none⟩ v0).setCell ⟨g, 1, none⟩ v1).setCell ⟨g, 2, none⟩ v2).setCell ⟨g, 3, none⟩ v3).setCell ⟨g, 4, none⟩ v4).setCell ⟨g, 5, none⟩ v5).setCell ⟨g, 6, none⟩ v6).setCell ⟨g, 7, none⟩ v7).heap[g]? = some (.cells #[v0, v1, v2, v3, v4, v5, v6, v7, x8, x9, x10, x11, x12] t (0, 0)) := Lib.heap_setCell_same (i := 7) s6 v7
  clear s6
  have s8 : (((((((((W.setCell ⟨g, 0, none⟩ v0).setCell ⟨g, 1, none⟩ v1).setCell ⟨g, 2, none⟩ v2).setCell ⟨g, 3, none⟩ v3).setCell ⟨g, 4, none⟩ v4).setCell ⟨g, 5, none⟩ v5).setCell ⟨g, 6, none⟩ v6).setCell ⟨g, 7, none⟩ v7).setCell ⟨g, 8, none⟩ v8).heap[g]? = some (.cells #[v0, v1, v2, v3, v4, v5, v6, v7, v8, x9, x10, x11, x12] t (0, 0)) := Lib.heap_setCell_same (i := 8) s7 v8
  clear s7
  have s9 : ((((((((((W.setCell ⟨g, 0, none⟩ v0).setCell ⟨g, 1, none⟩ v1).setCell ⟨g, 2, none⟩ v2).setCell ⟨g, 3, none⟩ v3).setCell ⟨g, 4, none⟩ v4).setCell ⟨g, 5, none⟩ v5).setCell ⟨g, 6, none⟩ v6).setCell ⟨g, 7, none⟩ v7).setCell ⟨g, 8, none⟩ v8).setCell ⟨g, 9, none⟩ v9).heap[g]? = some (.cells #[v0, v1, v2, v3, v4, v5, v6, v7, v8, v9, x10, x11, x12] t (0, 0)) := Lib.heap_setCell_same (i := 9) s8 v9
  clear s8
  have s10 : (((((((((((W.setCell ⟨g, 0, none⟩ v0).setCell ⟨g, 1, none⟩ v1).setCell ⟨g, 2, none⟩ v2).setCell ⟨g, 3, none⟩ v3).setCell ⟨g, 4, none⟩ v4).setCell ⟨g, 5, none⟩ v5).setCell ⟨g, 6, none⟩ v6).setCell ⟨g, 7, none⟩ v7).setCell ⟨g, 8, none⟩ v8).setCell ⟨g, 9, none⟩ v9).setCell ⟨g, 10, none⟩ v10).heap[g]? = some (.cells #[v0, v1, v2, v3, v4, v5, v6, v7, v8, v9, v10, x11, x12] t (0, 0)) := Lib.heap_setCell_same (i := 10) s9 v10
  clear s9
  have s11 : ((((((((((((W.setCell ⟨g, 0, none⟩ v0).setCell ⟨g, 1, none⟩ v1).setCell ⟨g, 2, none⟩ v2).setCell ⟨g, 3, none⟩ v3).setCell ⟨g, 4, none⟩ v4).setCell ⟨g, 5, none⟩ v5).setCell ⟨g, 6, none⟩ v6).setCell ⟨g, 7, none⟩ v7).setCell ⟨g, 8, none⟩ v8).setCell ⟨g, 9, none⟩ v9).setCell ⟨g, 10, none⟩ v10).setCell ⟨g, 11, none⟩ v11).heap[g]? = some (.cells #[v0, v1, v2, v3, v4, v5, v6, v7, v8, v9, v10, v11, x12] t (0, 0)) := Lib.heap_setCell_same (i := 11) s10 v11
  clear s10
  have s12 : (((((((((((((W.setCell ⟨g, 0, none⟩ v0).setCell ⟨g, 1, none⟩ v1).setCell ⟨g, 2, none⟩ v2).setCell ⟨g, 3, none⟩ v3).setCell ⟨g, 4, none⟩ v4).setCell ⟨g, 5, none⟩ v5).setCell ⟨g, 6, none⟩ v6).setCell ⟨g, 7, none⟩ v7).setCell ⟨g, 8, none⟩ v8).setCell ⟨g, 9, none⟩ v9).setCell ⟨g, 10, none⟩ v10).setCell ⟨g, 11, none⟩ v11).setCell ⟨g, 12, none⟩ v12).heap[g]? = some (.cells #[v0, v1, v2, v3, v4, v5, v6, v7, v8, v9, v10, v11, v12] t (0, 0)) := Lib.heap_setCell_same (i := 12) s11 v12
  clear s11
  exact s12
def RdRow (W : World) (g : Nat) (s : RS) : Prop := W.heap[g]? = some (.cells (rdC s).toArray 73 (0, 0))
theorem RdRow.c0 {W : World} {g : Nat} {s : RS} (h : RdRow W g s) : W.cell? ⟨g, 0, none⟩ = some (.int .i64 s.1) ∧ W.frozen? ⟨g, 0, none⟩ = false := by
  refine ⟨?_, Lib.frozen_of_heap h 0⟩
  rw [Lib.cell_of_heap h]
  rfl
theorem RdRow.ci {W : World} {g : Nat} {s : RS} (h : RdRow W g s) {i : Nat} {t : Tr} (ht : s.2[i]? = some t) : W.cell? ⟨g, 1 + i * 2, none⟩ = some (.int .i64 t.1) ∧ W.cell? ⟨g, 1 + i * 2 + 1, none⟩ = some (.int .i64 t.2) := by
  constructor
  · rw [Lib.cell_of_heap h]
    have := flat_get trC 2 trC_len s.2 i 0 t ht (by omega)
    rw [show 1 + i * 2 = i * 2 + 0 + 1 from by omega]
    rw [List.getElem?_toArray]
    exact this
  · rw [Lib.cell_of_heap h]
    have := flat_get trC 2 trC_len s.2 i 1 t ht (by omega)
    rw [show 1 + i * 2 + 1 = i * 2 + 1 + 1 from by omega]
    rw [List.getElem?_toArray]
    exact this
theorem RdRow.set0 {W : World} {g : Nat} {s : RS} (h : RdRow W g s) (p : Nat) : RdRow (W.setCell ⟨g, 0, none⟩ (.int .i64 p)) g (p, s.2) := by
  have := Lib.heap_setCell_same (i := 0) h (.int .i64 p)
  unfold RdRow
  rw [this]
  rfl
theorem flat_set (l : List Tr) (i : Nat) (t : Tr) (h : i < l.length) : (l.set i t).flatMap trC = ((l.flatMap trC).set (i * 2) (.int .i64 t.1)).set (i * 2 + 1) (.int .i64 t.2) := by
  induction l generalizing i with
  | nil => simp at h
  | cons x l ih =>
    cases i with
    | zero => rfl
    | succ i =>
      have := ih i (by simpa using h)
      rw [List.set_cons_succ, List.flatMap_cons, List.flatMap_cons, this]
      show _ = (((trC x ++ l.flatMap trC).set ((i + 1) * 2) _).set ((i + 1) * 2 + 1) _)
      rw [show (i + 1) * 2 = i * 2 + 2 from by omega]
      rfl
theorem RdRow.setT {W : World} {g : Nat} {s : RS} (h : RdRow W g s) {i : Nat} (hi : i < s.2.length) (t : Tr) : RdRow ((W.setCell ⟨g, 1 + i * 2, none⟩ (.int .i64 t.1)).setCell ⟨g, 1 + i * 2 + 1, none⟩ (.int .i64 t.2)) g (s.1, s.2.set i t) := by
  have h1 := Lib.heap_setCell_same (i := 1 + i * 2) h (.int .i64 t.1)
  have h2 := Lib.heap_setCell_same (i := 1 + i * 2 + 1) h1 (.int .i64 t.2)
  unfold RdRow
  rw [h2]
  congr 2
  unfold rdC
  rw [flat_set _ _ _ hi]
  rw [show 1 + i * 2 + 1 = i * 2 + 1 + 1 from by omega, show 1 + i * 2 = i * 2 + 1 from by omega]
  simp
theorem updL_len (l : List Rel) (ts : List Tr) (b : Bool) (d : Nat) : (updL l ts b d).length = ts.length := by
  induction l generalizing ts with
  | nil => rfl
  | cons r l ih =>
    cases ts with
    | nil => rfl
    | cons t ts => simp [updL, ih]
theorem updL_take (l : List Rel) (ts : List Tr) (b : Bool) (d : Nat) (i : Nat) (r : Rel) (t : Tr) (hr : l[i]? = some r) (ht : ts[i]? = some t) : (updL (l.take i) ts b d)[i]? = some t ∧ updL (l.take (i + 1)) ts b d = (updL (l.take i) ts b d).set i (trRead r t b d) := by
  induction l generalizing ts i with
  | nil => simp at hr
  | cons r' l ih =>
    cases ts with
    | nil => simp at ht
    | cons t' ts =>
      cases i with
      | zero =>
        simp at hr ht
        subst hr ht
        simp [updL]
      | succ i =>
        simp at hr ht
        obtain ⟨h1, h2⟩ := ih ts i hr ht
        simp [updL, h1, h2]
theorem rdS_b {g i k : Nat} {ph t1 t2 op md : Int} {nt : Bool} {sv : Value} {s : RS} {w7 W : World} (h : W.cell? ⟨g, 0, none⟩ = some (.int .i64 ph) ∧ W.cell? ⟨g, 1 + i * 2, none⟩ = some (.int .i64 t1) ∧ W.cell? ⟨g, 1 + i * 2 + 1, none⟩ = some (.int .i64 t2) ∧ W.cell? ⟨k, 0, none⟩ = some (.int .i64 op) ∧ W.cell? ⟨k, 1, none⟩ = some (.int .i64 md) ∧ W.cell? ⟨k, 2, none⟩ = some (.bool nt) ∧ W.cell? ⟨k, 3, none⟩ = some sv ∧ RdRow W g s ∧ Below w7.heap.size w7 W) : Below w7.heap.size w7 W := h.2.2.2.2.2.2.2.2
theorem rdS_step {g i k : Nat} {ph t1 t2 op md : Int} {nt : Bool} {sv : Value} {s : RS} {w7 W w8 : World} (h : W.cell? ⟨g, 0, none⟩ = some (.int .i64 ph) ∧ W.cell? ⟨g, 1 + i * 2, none⟩ = some (.int .i64 t1) ∧ W.cell? ⟨g, 1 + i * 2 + 1, none⟩ = some (.int .i64 t2) ∧ W.cell? ⟨k, 0, none⟩ = some (.int .i64 op) ∧ W.cell? ⟨k, 1, none⟩ = some (.int .i64 md) ∧ W.cell? ⟨k, 2, none⟩ = some (.bool nt) ∧ W.cell? ⟨k, 3, none⟩ = some sv ∧ RdRow W g s ∧ Below w7.heap.size w7 W) (hb : Below W.heap.size W w8) :
    w8.cell? ⟨g, 0, none⟩ = some (.int .i64 ph) ∧ w8.cell? ⟨g, 1 + i * 2, none⟩ = some (.int .i64 t1) ∧ w8.cell? ⟨g, 1 + i * 2 + 1, none⟩ = some (.int .i64 t2) ∧ w8.cell? ⟨k, 0, none⟩ = some (.int .i64 op) ∧ w8.cell? ⟨k, 1, none⟩ = some (.int .i64 md) ∧ w8.cell? ⟨k, 2, none⟩ = some (.bool nt) ∧ w8.cell? ⟨k, 3, none⟩ = some sv ∧ RdRow w8 g s ∧ Below w7.heap.size w7 w8 := by
  obtain ⟨h0, h1, h2, h3, h4, h5, h6, hr, h7⟩ := h
  have c := fun p u (h : W.cell? p = some u) => (hb.cell (p := p) (World.block_lt_of_cell? W _ h)).trans h
  exact ⟨c _ _ h0, c _ _ h1, c _ _ h2, c _ _ h3, c _ _ h4, c _ _ h5, c _ _ h6, (hb.block _ (Array.getElem?_eq_some_iff.1 hr).1).trans hr, h7.trans (hb.mono h7.size)⟩
set_option maxRecDepth 100000 in
set_option maxHeartbeats 1600000 in
theorem step_any (s : RS) (v : Value) (l : List Rel) (c B : Nat) (w : World) (hs : s.2.length = 6) (hv : IsRels w B v l) (hB : B ≤ w.heap.size) (hl : ∀ r ∈ l, relB r = true) (hl6 : l.length ≤ 6) (hr : ∀ (i : Nat) (t : Tr), s.2[i]? = some t → 0 ≤ t.1 ∧ t.1 ≤ 101 ∧ 0 ≤ t.2 ∧ t.2 ≤ 101) (hc : c ≤ 10) (hp : s.1 < 5) :
    Calls Tryz.prog 29 #[rdV s, v, .int .i64 c] w fun e w' => e = .returned (rdV (rdStep l s c)) ∧ Below w.heap.size w w' := by
  obtain ⟨ao, cap, rfl, hcl⟩ := hv
  obtain ⟨n, hn⟩ : ∃ n, n = l.length := ⟨_, rfl⟩
  rw [← hn] at hcl hl6
  rw [← hn]
  unfold rdV
  obtain ⟨A, hA⟩ : ∃ A, A = (rdC s).toArray := ⟨_, rfl⟩
  rw [← hA]
  have hA13 : A.size = 13 := by rw [hA, List.size_toArray, rdC_len hs]
  obtain ⟨R, hR⟩ : ∃ R, R = (rdC (rdStep l s c)).toArray := ⟨_, rfl⟩
  rw [← hR]
  have HA := Lib.hid hA
  have HR := Lib.hid hR
  have HC := Lib.hid hcl
  have HN := Lib.hid hn
  have HL := Lib.hid hl
  have HRG := Lib.hid hr
  clear hA hR hcl hn hl hr
  go_enter Tryz.func29, Tryz.ntmps29
  go_upto_region 1 with fail
  obtain ⟨w1, hw1⟩ : ∃ w1, w1 = ((w.alloc (.cells A 73)).alloc (.cells #[.int .i64 0, .int .i64 0, .int .i64 0, .int .i64 0, .int .i64 0, .int .i64 0, .int .i64 0, .int .i64 0, .int .i64 0, .int .i64 0, .int .i64 0, .int .i64 0, .int .i64 0] 73)) := ⟨_, rfl⟩
  obtain ⟨Z, hZ⟩ : ∃ Z : Array Value, Z = #[.int .i64 0, .int .i64 0, .int .i64 0, .int .i64 0, .int .i64 0, .int .i64 0, .int .i64 0, .int .i64 0, .int .i64 0, .int .i64 0, .int .i64 0, .int .i64 0, .int .i64 0] := ⟨_, rfl⟩
  obtain ⟨p0, p1, pb, ps⟩ := alloc2 w A Z 73 73
  rw [hZ, ← hw1] at p0 p1 pb ps
  rw [← hZ] at p1
  rw [← hw1]
  have hz13 : Z.size = 13 := by rw [hZ]; rfl
  clear hw1
  rw [HA.out] at p0
  have hrow : RdRow w1 w.heap.size s := p0
  have HROW := Lib.hid hrow
  have HZ := Lib.hid p1
  have HB := Lib.hid pb
  have HS := Lib.hid ps
  have H13 := Lib.hid hz13
  have HZC := Lib.hid hZ
  obtain ⟨c0, f0⟩ := hrow.c0
  clear p0 p1 pb ps hrow hA13 hz13 hZ
  by_cases k1 : c = 10
  · subst k1
    by_cases k3 : s.1 = 1
    · have k3b : ((s.1 : Int) == 1) = true := by simp [k3]
      have hst : rdStep l s 10 = (2, s.2) := by
        unfold rdStep
        rw [if_pos ⟨rfl, k3⟩]
      have hR13 : R.size = 13 := by rw [HR.out, List.size_toArray, hst, rdC_len (s := (2, s.2)) hs]
      have h1c : R.all (·.oneCell') = true := by rw [HR.out]; exact rdC_one _
      have hx : (w1.setCell ⟨w.heap.size, 0, none⟩ (.int .i64 2)).heap[w.heap.size]? = some (.cells R 73 (0, 0)) := by
        rw [HR.out, hst]
        exact HROW.out.set0 2
      have hxz : (w1.setCell ⟨w.heap.size, 0, none⟩ (.int .i64 2)).heap[w.heap.size + 1]? = some (.cells Z 73 (0, 0)) := by
        rw [heap_setCell_other _ _ _ _ (by simp)]
        exact HZ.out
      have HX := Lib.hid hx
      have HXZ := Lib.hid hxz
      have HXB := Lib.hid (HB.out.setCell (p := ⟨w.heap.size, 0, none⟩) (by simp) (.int .i64 2))
      have H1C := Lib.hid h1c
      have H13R := Lib.hid hR13
      clear hx hxz h1c hR13 hst k3
      go_wp2_with (first
        | (refine wpList_load_row rfl 73 _ rfl w.heap.size rfl _ _ _ _ HX.out Tryz.underlying73 rfl (by rw [Tryz.infoRd, H13R.out]) ?_)
        | (refine wpList_store_row rfl 73 _ _ rfl (w.heap.size + 1) _ rfl rfl 73 Z HXZ.out (by rw [Tryz.infoRd, H13R.out]) (by rw [H13.out, H13R.out]) H1C.out ?_))
      refine bodyPost_ret (results_cell_row rfl _ _ (w.heap.size + 1) _ _ _ _ rfl (setRow_heap _ _ _ _ _ _ HXZ.out) Tryz.underlying73 rfl (by rw [Tryz.infoRd, H13R.out])) rfl ?_
      exact ⟨rfl, below_setRow HXB.out (by omega) _⟩
    · have k3b : ((s.1 : Int) == 1) = false := by simp; omega
      have hR0 : R = #[.int .i64 4, .int .i64 0, .int .i64 0, .int .i64 0, .int .i64 0, .int .i64 0, .int .i64 0, .int .i64 0, .int .i64 0, .int .i64 0, .int .i64 0, .int .i64 0, .int .i64 0] := by
        rw [HR.out]
        unfold rdStep
        rw [if_neg (by omega), if_pos (by omega)]
        rfl
      subst hR0
      clear HR
      have hzz := HZ.out
      rw [HZC.out] at hzz
      obtain ⟨z0, y0, z1, y1, z2, y2, z3, y3, z4, y4, z5, y5, z6, y6, z7, y7, z8, y8, z9, y9, z10, y10, z11, y11, z12, y12⟩ := row13 hzz
      clear hzz
      go_wp2
      refine bodyPost_ret (results_cell_row rfl _ _ (w.heap.size + 1) _ #[.int .i64 4, .int .i64 0, .int .i64 0, .int .i64 0, .int .i64 0, .int .i64 0, .int .i64 0, .int .i64 0, .int .i64 0, .int .i64 0, .int .i64 0, .int .i64 0, .int .i64 0] _ _ rfl (set13 (HZC.out ▸ HZ.out)) Tryz.underlying73 rfl (by rw [Tryz.infoRd]; rfl)) rfl ?_
      exact ⟨rfl, (((((((((((((HB.out.setCell (p := _) (by simp) _).setCell (p := _) (by simp) _).setCell (p := _) (by simp) _).setCell (p := _) (by simp) _).setCell (p := _) (by simp) _).setCell (p := _) (by simp) _).setCell (p := _) (by simp) _).setCell (p := _) (by simp) _).setCell (p := _) (by simp) _).setCell (p := _) (by simp) _).setCell (p := _) (by simp) _).setCell (p := _) (by simp) _).setCell (p := _) (by simp) _)⟩
  · have k1b : ((c : Int) == 10) = false := by simp; omega
    by_cases k2 : s.1 = 4
    · have k2b : ((s.1 : Int) == 4) = true := by simp [k2]
      have k2c : ((s.1 : Int) == 1) = false := by simp [k2]
      have hR0 : R = #[.int .i64 4, .int .i64 0, .int .i64 0, .int .i64 0, .int .i64 0, .int .i64 0, .int .i64 0, .int .i64 0, .int .i64 0, .int .i64 0, .int .i64 0, .int .i64 0, .int .i64 0] := by
        rw [HR.out]
        unfold rdStep
        rw [if_neg (by omega), if_pos (by omega)]
        rfl
      subst hR0
      clear HR
      have hzz := HZ.out
      rw [HZC.out] at hzz
      obtain ⟨z0, y0, z1, y1, z2, y2, z3, y3, z4, y4, z5, y5, z6, y6, z7, y7, z8, y8, z9, y9, z10, y10, z11, y11, z12, y12⟩ := row13 hzz
      clear hzz
      go_wp2
      refine bodyPost_ret (results_cell_row rfl _ _ (w.heap.size + 1) _ #[.int .i64 4, .int .i64 0, .int .i64 0, .int .i64 0, .int .i64 0, .int .i64 0, .int .i64 0, .int .i64 0, .int .i64 0, .int .i64 0, .int .i64 0, .int .i64 0, .int .i64 0] _ _ rfl (set13 (HZC.out ▸ HZ.out)) Tryz.underlying73 rfl (by rw [Tryz.infoRd]; rfl)) rfl ?_
      exact ⟨rfl, (((((((((((((HB.out.setCell (p := _) (by simp) _).setCell (p := _) (by simp) _).setCell (p := _) (by simp) _).setCell (p := _) (by simp) _).setCell (p := _) (by simp) _).setCell (p := _) (by simp) _).setCell (p := _) (by simp) _).setCell (p := _) (by simp) _).setCell (p := _) (by simp) _).setCell (p := _) (by simp) _).setCell (p := _) (by simp) _).setCell (p := _) (by simp) _).setCell (p := _) (by simp) _)⟩
    · have k2b : ((s.1 : Int) == 4) = false := by simp; omega
      have hcase : (s.1 = 0 ∧ ((s.1 : Int) == 0) = true ∧ rdStep l s c = (1, updL l s.2 false c)) ∨ (s.1 ≠ 0 ∧ ((s.1 : Int) == 0) = false ∧ ((s.1 : Int) == 1) = true ∧ rdStep l s c = (1, updL l s.2 false c)) ∨ (((s.1 : Int) == 0) = false ∧ ((s.1 : Int) == 1) = false ∧ rdStep l s c = (3, updL l s.2 true c)) := by
        unfold rdStep
        rw [if_neg (by omega), if_neg (by omega)]
        by_cases k3 : s.1 = 0
        · left
          rw [if_pos (.inl k3)]
          exact ⟨k3, by simp [k3], rfl⟩
        · right
          by_cases k4 : s.1 = 1
          · left
            rw [if_pos (.inr k4)]
            exact ⟨k3, by simp [k4], by simp [k4], rfl⟩
          · right
            rw [if_neg (by omega)]
            exact ⟨by simp; omega, by simp; omega, rfl⟩
      have goal2 : ∀ (z : Int) (p : Nat), z = p → ∃ w2, w2 = w1.setCell ⟨w.heap.size, 0, none⟩ (.int .i64 z) ∧ RdRow w2 w.heap.size (p, s.2) ∧ w2.heap[w.heap.size + 1]? = some (.cells Z 73 (0, 0)) ∧ Below w.heap.size w w2 ∧ w2.heap.size = w.heap.size + 2 := fun z p hzp => by
        subst hzp
        refine ⟨_, rfl, HROW.out.set0 p, ?_, HB.out.setCell (p := _) (by simp) _, by simp; exact HS.out⟩
        rw [heap_setCell_other _ _ _ _ (by simp)]
        exact HZ.out
      have HG2 := Lib.hid goal2
      have HK := Lib.hid k1
      clear goal2 HROW HZ HB HS k1 k2
      rcases hcase with ⟨_, k3b, hst⟩ | ⟨_, k3b, k4b, hst⟩ | ⟨k3b, k4b, hst⟩
      · have HST := Lib.hid hst
        clear hst
        go_upto_region 9 with fail
        obtain ⟨w2, hw2, hrow2, hz2, hb2, hs2⟩ := HG2.out 1 1 rfl
        rw [← hw2]
        clear hw2 c0 f0
        have hst := HST.out
        obtain ⟨ph, hph⟩ : ∃ ph : Nat, ph = 1 := ⟨_, rfl⟩
        rw [← hph] at hrow2 hst
        have hq : ((ph : Int) == 3) = false := by rw [hph]; rfl
        clear hph HST HG2
        have HST := Lib.hid hst
        have HROW2 := Lib.hid hrow2
        have HZ2 := Lib.hid hz2
        have HB2 := Lib.hid hb2
        have HS2 := Lib.hid hs2
        clear hrow2 hz2 hb2 hs2 hst
        go_wp2
        go_loopw [40] (fun iv wr => ∃ i : Nat, i ≤ n ∧ iv = .int .i64 i ∧ RdRow wr w.heap.size (ph, updL (l.take i) s.2 false c) ∧ wr.heap[w.heap.size + 1]? = some (.cells Z 73 (0, 0)) ∧ Below w.heap.size w wr ∧ w.heap.size + 2 ≤ wr.heap.size) (fun iv _ => n - (intOf iv).toNat)
        case atStart => exact ⟨0, Nat.zero_le _, rfl, by simpa [updL] using HROW2.out, HZ2.out, HB2.out, by rw [HS2.out]; exact Nat.le_refl _⟩
        case round =>
          obtain ⟨i, hi, rfl, hrow, hz, hb, hsz⟩ := hrel
          have i0 : (0 : Int) ≤ (i : Int) := by omega
          by_cases hlt : i < n
          · have i1 : (i : Int) < (n : Int) := by omega
            have i6 : (i : Int) < 6 := by omega
            have hil : i < l.length := by have := HN.out; omega
            obtain ⟨r, hx'⟩ : ∃ r, l[i]? = some r := ⟨_, List.getElem?_eq_getElem hil⟩
            obtain ⟨t, ht⟩ : ∃ t, s.2[i]? = some t := ⟨_, List.getElem?_eq_getElem (by omega)⟩
            obtain ⟨b, o, rfl, hbB, hcl⟩ := HC.out (by omega)
            obtain ⟨d0, d1, d2, sv, d3, d4⟩ := hcl i r hx'
            have cell := fun k u (h : w.cell? ⟨b, k, none⟩ = some u) => (hb.cell (p := ⟨b, k, none⟩) (by show b < w.heap.size; omega)).trans h
            have e0 := cell _ _ d0
            have e1 := cell _ _ d1
            have e2 := cell _ _ d2
            have e3 := cell _ _ d3
            have hrel := HL.out r (List.mem_of_getElem? hx')
            obtain ⟨u1, u2⟩ := updL_take l s.2 false c i r t hx' ht
            obtain ⟨g0, g1, g2, g3⟩ := HRG.out i t ht
            have hsp := (d4.below (hb.mono hB))
            obtain ⟨op, md, nt, sp⟩ := r
            obtain ⟨t1, t2⟩ := t
            have hsp' := hsp
            obtain ⟨aS, cS, rfl, _⟩ := hsp'
            simp only at hsp e3
            obtain ⟨m, hm⟩ : ∃ m, m = sp.length := ⟨_, rfl⟩
            rw [← hm] at hsp e3
            obtain ⟨sv, hsv⟩ : ∃ sv, sv = Value.slice aS m cS := ⟨_, rfl⟩
            have HSV := Lib.hid hsv
            rw [← hsv] at hsp
            clear hsv hm
            have hul : i < (updL (l.take i) s.2 false c).length := by rw [updL_len]; omega
            have HROW3 := Lib.hid hrow
            have HZ3 := Lib.hid hz
            have HB3 := Lib.hid hb
            have HU1 := Lib.hid u1
            have HU2 := Lib.hid u2
            have HUL := Lib.hid hul
            have HSP := Lib.hid hsp
            have HREL := Lib.hid hrel
            have HSZ := Lib.hid hsz
            clear hcl d0 d1 d2 d3 d4 hb hx' ht hrow hz cell u1 u2 hsp hrel hul hsz
            go_upto_region 12 with fail
            obtain ⟨w7, hw7⟩ : ∃ w7, w7 = wr.alloc (.cells #[.int .i64 op, .int .i64 md, .bool nt, .slice aS m cS] 51) := ⟨_, rfl⟩
            have hb7 : Below wr.heap.size wr w7 := by rw [hw7]; exact (Below.refl _ _).alloc (Nat.le_refl _) _
            have hr7 : w7.heap[wr.heap.size]? = some (.cells #[.int .i64 op, .int .i64 md, .bool nt, .slice aS m cS] 51 (0, 0)) := by rw [hw7]; exact heap_alloc_new wr _
            rw [← hw7]
            clear hw7 e0 e1 e2 e3
            have hrow7 : RdRow w7 w.heap.size (ph, updL (l.take i) s.2 false c) := (hb7.block _ (by have := HSZ.out; omega)).trans HROW3.out
            obtain ⟨r0, r1, r2, r3⟩ := rel_cells hr7
            obtain ⟨c0, _⟩ := hrow7.c0
            obtain ⟨t0, t01⟩ := hrow7.ci HU1.out
            simp only at c0 t0 t01
            have HR7 := Lib.hid hr7
            have HB7 := Lib.hid hb7
            have HROW7 := Lib.hid hrow7
            have hsz7 := hb7.size
            have HSZ7 := Lib.hid hsz7
            have hrd : ∀ W, Below w7.heap.size w7 W → Calls Tryz.prog 56 #[.agg #[.int .i64 t1, .int .i64 t2], .agg #[.int .i64 op, .int .i64 md, .bool nt, .slice aS m cS], .bool false, .int .i64 c] W fun e w' =>
                e = .returned (.agg #[.int .i64 (trRead ⟨op, md, nt, sp⟩ (t1, t2) false c).1, .int .i64 (trRead ⟨op, md, nt, sp⟩ (t1, t2) false c).2]) ∧ Below W.heap.size W w' := fun W hW => by
              have hbw : Below wr.heap.size wr W := HB7.out.trans (hW.mono HB7.out.size)
              have h := HSP.out
              rw [HSV.out] at h
              exact trRead_any op md nt _ sp t1 t2 false c B W (h.below (hbw.mono (Nat.le_trans hB (by have := HSZ.out; omega)))) (Nat.le_trans hB (by have := hbw.size; have := HSZ.out; omega)) HREL.out ⟨g0, g1⟩ ⟨g2, g3⟩ (by have := HK.out; omega)
            obtain ⟨⟨v1, v2⟩, hT⟩ : ∃ T : Tr, T = trRead ⟨op, md, nt, sp⟩ (t1, t2) false c := ⟨_, rfl⟩
            rw [← hT] at hrd
            have HRD := Lib.hid hrd
            have HTT := Lib.hid hT
            have fin : ∀ w8, RdRow w8 w.heap.size (ph, updL (l.take i) s.2 false c) → Below w7.heap.size w7 w8 →
                RdRow ((w8.setCell ⟨w.heap.size, 1 + i * 2, none⟩ (.int .i64 v1)).setCell ⟨w.heap.size, 1 + i * 2 + 1, none⟩ (.int .i64 v2)) w.heap.size (ph, updL (l.take (i + 1)) s.2 false c) ∧
                ((w8.setCell ⟨w.heap.size, 1 + i * 2, none⟩ (.int .i64 v1)).setCell ⟨w.heap.size, 1 + i * 2 + 1, none⟩ (.int .i64 v2)).heap[w.heap.size + 1]? = some (.cells Z 73 (0, 0)) ∧
                Below w.heap.size w ((w8.setCell ⟨w.heap.size, 1 + i * 2, none⟩ (.int .i64 v1)).setCell ⟨w.heap.size, 1 + i * 2 + 1, none⟩ (.int .i64 v2)) ∧
                w.heap.size + 2 ≤ ((w8.setCell ⟨w.heap.size, 1 + i * 2, none⟩ (.int .i64 v1)).setCell ⟨w.heap.size, 1 + i * 2 + 1, none⟩ (.int .i64 v2)).heap.size := fun w8 h8 hb8 => by
              have hbr : Below wr.heap.size wr w8 := hb7.trans (hb8.mono hb7.size)
              refine ⟨?_, ?_, ?_, ?_⟩
              · rw [HU2.out, ← hT]
                exact h8.setT HUL.out (v1, v2)
              · rw [heap_setCell_other _ _ _ _ (by simp), heap_setCell_other _ _ _ _ (by simp), hbr.block _ (by have := HSZ.out; omega)]
                exact HZ3.out
              · exact ((HB3.out.trans (hbr.mono HB3.out.size)).setCell (p := _) (by simp) _).setCell (p := _) (by simp) _
              · have := hbr.size
                have := HSZ.out
                simp
                omega
            have FIN := Lib.hid fin
            clear hr7 hb7 hrow7 hsz7 hrd hT fin
            first | go_region_with (first | (go_at_call 56; refine (HRD.out _ (by first | exact Below.refl _ _ | exact (Below.refl _ _).drew)).mono ?_; rintro e w8 ⟨rfl, hb8⟩; have hS8 := rdS_step (g := w.heap.size) (i := i) (k := wr.heap.size) (ph := ph) (s := (ph, updL (l.take i) s.2 false c)) (w7 := w7) (by first | exact ⟨c0, t0, t01, r0, r1, r2, r3, HROW7.out, Below.refl _ _⟩ | exact ⟨c0, t0, t01, r0, r1, r2, r3, HROW7.out, (Below.refl _ _).drew⟩) hb8; have f8 := Lib.frozen_of_heap hS8.2.2.2.2.2.2.2.1 (1 + i * 2); have f9 := Lib.frozen_of_heap hS8.2.2.2.2.2.2.2.1 (1 + i * 2 + 1); have q8 := hS8.2.1; have q9 := hS8.2.2.1; have q0 := hS8.1)) | fail
            all_goals
              go_wp2
              go_roundw
              case rel => exact ⟨i + 1, by omega, by go_num, FIN.out _ hS8.2.2.2.2.2.2.2.1 hS8.2.2.2.2.2.2.2.2⟩
              case measure => simp [intOf] <;> omega
          · have i1 : ¬ (i : Int) < (n : Int) := by omega
            have hd : l.take i = l := List.take_of_length_le (by have := HN.out; omega)
            rw [hd, ← HST.out] at hrow
            have hR13 : R.size = 13 := by
              rw [HR.out, List.size_toArray, HST.out, rdC_len (by rw [updL_len]; exact hs)]
            have hrow' : wr.heap[w.heap.size]? = some (.cells R 73 (0, 0)) := by rw [HR.out]; exact hrow
            have h1c : R.all (·.oneCell') = true := by rw [HR.out]; exact rdC_one _
            have HZ3 := Lib.hid hz
            have HB3 := Lib.hid hb
            have HR3 := Lib.hid hrow'
            have H1C := Lib.hid h1c
            have H13R := Lib.hid hR13
            clear hd hrow hz hb hrow' h1c hR13
            go_wp2_with (first
              | (refine wpList_load_row rfl 73 _ rfl w.heap.size rfl _ _ _ _ HR3.out Tryz.underlying73 rfl (by rw [Tryz.infoRd, H13R.out]) ?_)
              | (refine wpList_store_row rfl 73 _ _ rfl (w.heap.size + 1) _ rfl rfl 73 Z HZ3.out (by rw [Tryz.infoRd, H13R.out]) (by rw [H13.out, H13R.out]) H1C.out ?_))
            refine bodyPost_ret (results_cell_row rfl _ _ (w.heap.size + 1) _ _ _ _ rfl (setRow_heap _ _ _ _ _ _ HZ3.out) Tryz.underlying73 rfl (by rw [Tryz.infoRd, H13R.out])) rfl ?_
            exact ⟨rfl, below_setRow HB3.out (by omega) _⟩
      · have HST := Lib.hid hst
        clear hst
        go_upto_region 9 with fail
        obtain ⟨w2, hw2, hrow2, hz2, hb2, hs2⟩ := HG2.out 1 1 rfl
        rw [← hw2]
        clear hw2 c0 f0
        have hst := HST.out
        obtain ⟨ph, hph⟩ : ∃ ph : Nat, ph = 1 := ⟨_, rfl⟩
        rw [← hph] at hrow2 hst
        have hq : ((ph : Int) == 3) = false := by rw [hph]; rfl
        clear hph HST HG2
        have HST := Lib.hid hst
        have HROW2 := Lib.hid hrow2
        have HZ2 := Lib.hid hz2
        have HB2 := Lib.hid hb2
        have HS2 := Lib.hid hs2
        clear hrow2 hz2 hb2 hs2 hst
        go_wp2
        go_loopw [40] (fun iv wr => ∃ i : Nat, i ≤ n ∧ iv = .int .i64 i ∧ RdRow wr w.heap.size (ph, updL (l.take i) s.2 false c) ∧ wr.heap[w.heap.size + 1]? = some (.cells Z 73 (0, 0)) ∧ Below w.heap.size w wr ∧ w.heap.size + 2 ≤ wr.heap.size) (fun iv _ => n - (intOf iv).toNat)
        case atStart => exact ⟨0, Nat.zero_le _, rfl, by simpa [updL] using HROW2.out, HZ2.out, HB2.out, by rw [HS2.out]; exact Nat.le_refl _⟩
        case round =>
          obtain ⟨i, hi, rfl, hrow, hz, hb, hsz⟩ := hrel
          have i0 : (0 : Int) ≤ (i : Int) := by omega
          by_cases hlt : i < n
          · have i1 : (i : Int) < (n : Int) := by omega
            have i6 : (i : Int) < 6 := by omega
            have hil : i < l.length := by have := HN.out; omega
            obtain ⟨r, hx'⟩ : ∃ r, l[i]? = some r := ⟨_, List.getElem?_eq_getElem hil⟩
            obtain ⟨t, ht⟩ : ∃ t, s.2[i]? = some t := ⟨_, List.getElem?_eq_getElem (by omega)⟩
            obtain ⟨b, o, rfl, hbB, hcl⟩ := HC.out (by omega)
            obtain ⟨d0, d1, d2, sv, d3, d4⟩ := hcl i r hx'
            have cell := fun k u (h : w.cell? ⟨b, k, none⟩ = some u) => (hb.cell (p := ⟨b, k, none⟩) (by show b < w.heap.size; omega)).trans h
            have e0 := cell _ _ d0
            have e1 := cell _ _ d1
            have e2 := cell _ _ d2
            have e3 := cell _ _ d3
            have hrel := HL.out r (List.mem_of_getElem? hx')
            obtain ⟨u1, u2⟩ := updL_take l s.2 false c i r t hx' ht
            obtain ⟨g0, g1, g2, g3⟩ := HRG.out i t ht
            have hsp := (d4.below (hb.mono hB))
            obtain ⟨op, md, nt, sp⟩ := r
            obtain ⟨t1, t2⟩ := t
            have hsp' := hsp
            obtain ⟨aS, cS, rfl, _⟩ := hsp'
            simp only at hsp e3
            obtain ⟨m, hm⟩ : ∃ m, m = sp.length := ⟨_, rfl⟩
            rw [← hm] at hsp e3
            obtain ⟨sv, hsv⟩ : ∃ sv, sv = Value.slice aS m cS := ⟨_, rfl⟩
            have HSV := Lib.hid hsv
            rw [← hsv] at hsp
            clear hsv hm
            have hul : i < (updL (l.take i) s.2 false c).length := by rw [updL_len]; omega
            have HROW3 := Lib.hid hrow
            have HZ3 := Lib.hid hz
            have HB3 := Lib.hid hb
            have HU1 := Lib.hid u1
            have HU2 := Lib.hid u2
            have HUL := Lib.hid hul
            have HSP := Lib.hid hsp
            have HREL := Lib.hid hrel
            have HSZ := Lib.hid hsz
            clear hcl d0 d1 d2 d3 d4 hb hx' ht hrow hz cell u1 u2 hsp hrel hul hsz
            go_upto_region 12 with fail
            obtain ⟨w7, hw7⟩ : ∃ w7, w7 = wr.alloc (.cells #[.int .i64 op, .int .i64 md, .bool nt, .slice aS m cS] 51) := ⟨_, rfl⟩
            have hb7 : Below wr.heap.size wr w7 := by rw [hw7]; exact (Below.refl _ _).alloc (Nat.le_refl _) _
            have hr7 : w7.heap[wr.heap.size]? = some (.cells #[.int .i64 op, .int .i64 md, .bool nt, .slice aS m cS] 51 (0, 0)) := by rw [hw7]; exact heap_alloc_new wr _
            rw [← hw7]
            clear hw7 e0 e1 e2 e3
            have hrow7 : RdRow w7 w.heap.size (ph, updL (l.take i) s.2 false c) := (hb7.block _ (by have := HSZ.out; omega)).trans HROW3.out
            obtain ⟨r0, r1, r2, r3⟩ := rel_cells hr7
            obtain ⟨c0, _⟩ := hrow7.c0
            obtain ⟨t0, t01⟩ := hrow7.ci HU1.out
            simp only at c0 t0 t01
            have HR7 := Lib.hid hr7
            have HB7 := Lib.hid hb7
            have HROW7 := Lib.hid hrow7
            have hsz7 := hb7.size
            have HSZ7 := Lib.hid hsz7
            have hrd : ∀ W, Below w7.heap.size w7 W → Calls Tryz.prog 56 #[.agg #[.int .i64 t1, .int .i64 t2], .agg #[.int .i64 op, .int .i64 md, .bool nt, .slice aS m cS], .bool false, .int .i64 c] W fun e w' =>
                e = .returned (.agg #[.int .i64 (trRead ⟨op, md, nt, sp⟩ (t1, t2) false c).1, .int .i64 (trRead ⟨op, md, nt, sp⟩ (t1, t2) false c).2]) ∧ Below W.heap.size W w' := fun W hW => by
              have hbw : Below wr.heap.size wr W := HB7.out.trans (hW.mono HB7.out.size)
              have h := HSP.out
              rw [HSV.out] at h
              exact trRead_any op md nt _ sp t1 t2 false c B W (h.below (hbw.mono (Nat.le_trans hB (by have := HSZ.out; omega)))) (Nat.le_trans hB (by have := hbw.size; have := HSZ.out; omega)) HREL.out ⟨g0, g1⟩ ⟨g2, g3⟩ (by have := HK.out; omega)
            obtain ⟨⟨v1, v2⟩, hT⟩ : ∃ T : Tr, T = trRead ⟨op, md, nt, sp⟩ (t1, t2) false c := ⟨_, rfl⟩
            rw [← hT] at hrd
            have HRD := Lib.hid hrd
            have HTT := Lib.hid hT
            have fin : ∀ w8, RdRow w8 w.heap.size (ph, updL (l.take i) s.2 false c) → Below w7.heap.size w7 w8 →
                RdRow ((w8.setCell ⟨w.heap.size, 1 + i * 2, none⟩ (.int .i64 v1)).setCell ⟨w.heap.size, 1 + i * 2 + 1, none⟩ (.int .i64 v2)) w.heap.size (ph, updL (l.take (i + 1)) s.2 false c) ∧
                ((w8.setCell ⟨w.heap.size, 1 + i * 2, none⟩ (.int .i64 v1)).setCell ⟨w.heap.size, 1 + i * 2 + 1, none⟩ (.int .i64 v2)).heap[w.heap.size + 1]? = some (.cells Z 73 (0, 0)) ∧
                Below w.heap.size w ((w8.setCell ⟨w.heap.size, 1 + i * 2, none⟩ (.int .i64 v1)).setCell ⟨w.heap.size, 1 + i * 2 + 1, none⟩ (.int .i64 v2)) ∧
                w.heap.size + 2 ≤ ((w8.setCell ⟨w.heap.size, 1 + i * 2, none⟩ (.int .i64 v1)).setCell ⟨w.heap.size, 1 + i * 2 + 1, none⟩ (.int .i64 v2)).heap.size := fun w8 h8 hb8 => by
              have hbr : Below wr.heap.size wr w8 := hb7.trans (hb8.mono hb7.size)
              refine ⟨?_, ?_, ?_, ?_⟩
              · rw [HU2.out, ← hT]
                exact h8.setT HUL.out (v1, v2)
              · rw [heap_setCell_other _ _ _ _ (by simp), heap_setCell_other _ _ _ _ (by simp), hbr.block _ (by have := HSZ.out; omega)]
                exact HZ3.out
              · exact ((HB3.out.trans (hbr.mono HB3.out.size)).setCell (p := _) (by simp) _).setCell (p := _) (by simp) _
              · have := hbr.size
                have := HSZ.out
                simp
                omega
            have FIN := Lib.hid fin
            clear hr7 hb7 hrow7 hsz7 hrd hT fin
            first | go_region_with (first | (go_at_call 56; refine (HRD.out _ (by first | exact Below.refl _ _ | exact (Below.refl _ _).drew)).mono ?_; rintro e w8 ⟨rfl, hb8⟩; have hS8 := rdS_step (g := w.heap.size) (i := i) (k := wr.heap.size) (ph := ph) (s := (ph, updL (l.take i) s.2 false c)) (w7 := w7) (by first | exact ⟨c0, t0, t01, r0, r1, r2, r3, HROW7.out, Below.refl _ _⟩ | exact ⟨c0, t0, t01, r0, r1, r2, r3, HROW7.out, (Below.refl _ _).drew⟩) hb8; have f8 := Lib.frozen_of_heap hS8.2.2.2.2.2.2.2.1 (1 + i * 2); have f9 := Lib.frozen_of_heap hS8.2.2.2.2.2.2.2.1 (1 + i * 2 + 1); have q8 := hS8.2.1; have q9 := hS8.2.2.1; have q0 := hS8.1)) | fail
            all_goals
              go_wp2
              go_roundw
              case rel => exact ⟨i + 1, by omega, by go_num, FIN.out _ hS8.2.2.2.2.2.2.2.1 hS8.2.2.2.2.2.2.2.2⟩
              case measure => simp [intOf] <;> omega
          · have i1 : ¬ (i : Int) < (n : Int) := by omega
            have hd : l.take i = l := List.take_of_length_le (by have := HN.out; omega)
            rw [hd, ← HST.out] at hrow
            have hR13 : R.size = 13 := by
              rw [HR.out, List.size_toArray, HST.out, rdC_len (by rw [updL_len]; exact hs)]
            have hrow' : wr.heap[w.heap.size]? = some (.cells R 73 (0, 0)) := by rw [HR.out]; exact hrow
            have h1c : R.all (·.oneCell') = true := by rw [HR.out]; exact rdC_one _
            have HZ3 := Lib.hid hz
            have HB3 := Lib.hid hb
            have HR3 := Lib.hid hrow'
            have H1C := Lib.hid h1c
            have H13R := Lib.hid hR13
            clear hd hrow hz hb hrow' h1c hR13
            go_wp2_with (first
              | (refine wpList_load_row rfl 73 _ rfl w.heap.size rfl _ _ _ _ HR3.out Tryz.underlying73 rfl (by rw [Tryz.infoRd, H13R.out]) ?_)
              | (refine wpList_store_row rfl 73 _ _ rfl (w.heap.size + 1) _ rfl rfl 73 Z HZ3.out (by rw [Tryz.infoRd, H13R.out]) (by rw [H13.out, H13R.out]) H1C.out ?_))
            refine bodyPost_ret (results_cell_row rfl _ _ (w.heap.size + 1) _ _ _ _ rfl (setRow_heap _ _ _ _ _ _ HZ3.out) Tryz.underlying73 rfl (by rw [Tryz.infoRd, H13R.out])) rfl ?_
            exact ⟨rfl, below_setRow HB3.out (by omega) _⟩
      · have HST := Lib.hid hst
        clear hst
        go_upto_region 9 with fail
        obtain ⟨w2, hw2, hrow2, hz2, hb2, hs2⟩ := HG2.out 3 3 rfl
        rw [← hw2]
        clear hw2 c0 f0
        have hst := HST.out
        obtain ⟨ph, hph⟩ : ∃ ph : Nat, ph = 3 := ⟨_, rfl⟩
        rw [← hph] at hrow2 hst
        have hq : ((ph : Int) == 3) = true := by rw [hph]; rfl
        clear hph HST HG2
        have HST := Lib.hid hst
        have HROW2 := Lib.hid hrow2
        have HZ2 := Lib.hid hz2
        have HB2 := Lib.hid hb2
        have HS2 := Lib.hid hs2
        clear hrow2 hz2 hb2 hs2 hst
        go_wp2
        go_loopw [40] (fun iv wr => ∃ i : Nat, i ≤ n ∧ iv = .int .i64 i ∧ RdRow wr w.heap.size (ph, updL (l.take i) s.2 true c) ∧ wr.heap[w.heap.size + 1]? = some (.cells Z 73 (0, 0)) ∧ Below w.heap.size w wr ∧ w.heap.size + 2 ≤ wr.heap.size) (fun iv _ => n - (intOf iv).toNat)
        case atStart => exact ⟨0, Nat.zero_le _, rfl, by simpa [updL] using HROW2.out, HZ2.out, HB2.out, by rw [HS2.out]; exact Nat.le_refl _⟩
        case round =>
          obtain ⟨i, hi, rfl, hrow, hz, hb, hsz⟩ := hrel
          have i0 : (0 : Int) ≤ (i : Int) := by omega
          by_cases hlt : i < n
          · have i1 : (i : Int) < (n : Int) := by omega
            have i6 : (i : Int) < 6 := by omega
            have hil : i < l.length := by have := HN.out; omega
            obtain ⟨r, hx'⟩ : ∃ r, l[i]? = some r := ⟨_, List.getElem?_eq_getElem hil⟩
            obtain ⟨t, ht⟩ : ∃ t, s.2[i]? = some t := ⟨_, List.getElem?_eq_getElem (by omega)⟩
            obtain ⟨b, o, rfl, hbB, hcl⟩ := HC.out (by omega)
            obtain ⟨d0, d1, d2, sv, d3, d4⟩ := hcl i r hx'
            have cell := fun k u (h : w.cell? ⟨b, k, none⟩ = some u) => (hb.cell (p := ⟨b, k, none⟩) (by show b < w.heap.size; omega)).trans h
            have e0 := cell _ _ d0
            have e1 := cell _ _ d1
            have e2 := cell _ _ d2
            have e3 := cell _ _ d3
            have hrel := HL.out r (List.mem_of_getElem? hx')
            obtain ⟨u1, u2⟩ := updL_take l s.2 true c i r t hx' ht
            obtain ⟨g0, g1, g2, g3⟩ := HRG.out i t ht
            have hsp := (d4.below (hb.mono hB))
            obtain ⟨op, md, nt, sp⟩ := r
            obtain ⟨t1, t2⟩ := t
            have hsp' := hsp
            obtain ⟨aS, cS, rfl, _⟩ := hsp'
            simp only at hsp e3
            obtain ⟨m, hm⟩ : ∃ m, m = sp.length := ⟨_, rfl⟩
            rw [← hm] at hsp e3
            obtain ⟨sv, hsv⟩ : ∃ sv, sv = Value.slice aS m cS := ⟨_, rfl⟩
            have HSV := Lib.hid hsv
            rw [← hsv] at hsp
            clear hsv hm
            have hul : i < (updL (l.take i) s.2 true c).length := by rw [updL_len]; omega
            have HROW3 := Lib.hid hrow
            have HZ3 := Lib.hid hz
            have HB3 := Lib.hid hb
            have HU1 := Lib.hid u1
            have HU2 := Lib.hid u2
            have HUL := Lib.hid hul
            have HSP := Lib.hid hsp
            have HREL := Lib.hid hrel
            have HSZ := Lib.hid hsz
            clear hcl d0 d1 d2 d3 d4 hb hx' ht hrow hz cell u1 u2 hsp hrel hul hsz
            go_upto_region 12 with fail
            obtain ⟨w7, hw7⟩ : ∃ w7, w7 = wr.alloc (.cells #[.int .i64 op, .int .i64 md, .bool nt, .slice aS m cS] 51) := ⟨_, rfl⟩
            have hb7 : Below wr.heap.size wr w7 := by rw [hw7]; exact (Below.refl _ _).alloc (Nat.le_refl _) _
            have hr7 : w7.heap[wr.heap.size]? = some (.cells #[.int .i64 op, .int .i64 md, .bool nt, .slice aS m cS] 51 (0, 0)) := by rw [hw7]; exact heap_alloc_new wr _
            rw [← hw7]
            clear hw7 e0 e1 e2 e3
            have hrow7 : RdRow w7 w.heap.size (ph, updL (l.take i) s.2 true c) := (hb7.block _ (by have := HSZ.out; omega)).trans HROW3.out
            obtain ⟨r0, r1, r2, r3⟩ := rel_cells hr7
            obtain ⟨c0, _⟩ := hrow7.c0
            obtain ⟨t0, t01⟩ := hrow7.ci HU1.out
            simp only at c0 t0 t01
            have HR7 := Lib.hid hr7
            have HB7 := Lib.hid hb7
            have HROW7 := Lib.hid hrow7
            have hsz7 := hb7.size
            have HSZ7 := Lib.hid hsz7
            have hrd : ∀ W, Below w7.heap.size w7 W → Calls Tryz.prog 56 #[.agg #[.int .i64 t1, .int .i64 t2], .agg #[.int .i64 op, .int .i64 md, .bool nt, .slice aS m cS], .bool true, .int .i64 c] W fun e w' =>
                e = .returned (.agg #[.int .i64 (trRead ⟨op, md, nt, sp⟩ (t1, t2) true c).1, .int .i64 (trRead ⟨op, md, nt, sp⟩ (t1, t2) true c).2]) ∧ Below W.heap.size W w' := fun W hW => by
              have hbw : Below wr.heap.size wr W := HB7.out.trans (hW.mono HB7.out.size)
              have h := HSP.out
              rw [HSV.out] at h
              exact trRead_any op md nt _ sp t1 t2 true c B W (h.below (hbw.mono (Nat.le_trans hB (by have := HSZ.out; omega)))) (Nat.le_trans hB (by have := hbw.size; have := HSZ.out; omega)) HREL.out ⟨g0, g1⟩ ⟨g2, g3⟩ (by have := HK.out; omega)
            obtain ⟨⟨v1, v2⟩, hT⟩ : ∃ T : Tr, T = trRead ⟨op, md, nt, sp⟩ (t1, t2) true c := ⟨_, rfl⟩
            rw [← hT] at hrd
            have HRD := Lib.hid hrd
            have HTT := Lib.hid hT
            have fin : ∀ w8, RdRow w8 w.heap.size (ph, updL (l.take i) s.2 true c) → Below w7.heap.size w7 w8 →
                RdRow ((w8.setCell ⟨w.heap.size, 1 + i * 2, none⟩ (.int .i64 v1)).setCell ⟨w.heap.size, 1 + i * 2 + 1, none⟩ (.int .i64 v2)) w.heap.size (ph, updL (l.take (i + 1)) s.2 true c) ∧
                ((w8.setCell ⟨w.heap.size, 1 + i * 2, none⟩ (.int .i64 v1)).setCell ⟨w.heap.size, 1 + i * 2 + 1, none⟩ (.int .i64 v2)).heap[w.heap.size + 1]? = some (.cells Z 73 (0, 0)) ∧
                Below w.heap.size w ((w8.setCell ⟨w.heap.size, 1 + i * 2, none⟩ (.int .i64 v1)).setCell ⟨w.heap.size, 1 + i * 2 + 1, none⟩ (.int .i64 v2)) ∧
                w.heap.size + 2 ≤ ((w8.setCell ⟨w.heap.size, 1 + i * 2, none⟩ (.int .i64 v1)).setCell ⟨w.heap.size, 1 + i * 2 + 1, none⟩ (.int .i64 v2)).heap.size := fun w8 h8 hb8 => by
              have hbr : Below wr.heap.size wr w8 := hb7.trans (hb8.mono hb7.size)
              refine ⟨?_, ?_, ?_, ?_⟩
              · rw [HU2.out, ← hT]
                exact h8.setT HUL.out (v1, v2)
              · rw [heap_setCell_other _ _ _ _ (by simp), heap_setCell_other _ _ _ _ (by simp), hbr.block _ (by have := HSZ.out; omega)]
                exact HZ3.out
              · exact ((HB3.out.trans (hbr.mono HB3.out.size)).setCell (p := _) (by simp) _).setCell (p := _) (by simp) _
              · have := hbr.size
                have := HSZ.out
                simp
                omega
            have FIN := Lib.hid fin
            clear hr7 hb7 hrow7 hsz7 hrd hT fin
            first | go_region_with (first | (go_at_call 56; refine (HRD.out _ (by first | exact Below.refl _ _ | exact (Below.refl _ _).drew)).mono ?_; rintro e w8 ⟨rfl, hb8⟩; have hS8 := rdS_step (g := w.heap.size) (i := i) (k := wr.heap.size) (ph := ph) (s := (ph, updL (l.take i) s.2 true c)) (w7 := w7) (by first | exact ⟨c0, t0, t01, r0, r1, r2, r3, HROW7.out, Below.refl _ _⟩ | exact ⟨c0, t0, t01, r0, r1, r2, r3, HROW7.out, (Below.refl _ _).drew⟩) hb8; have f8 := Lib.frozen_of_heap hS8.2.2.2.2.2.2.2.1 (1 + i * 2); have f9 := Lib.frozen_of_heap hS8.2.2.2.2.2.2.2.1 (1 + i * 2 + 1); have q8 := hS8.2.1; have q9 := hS8.2.2.1; have q0 := hS8.1)) | fail
            all_goals
              go_wp2
              go_roundw
              case rel => exact ⟨i + 1, by omega, by go_num, FIN.out _ hS8.2.2.2.2.2.2.2.1 hS8.2.2.2.2.2.2.2.2⟩
              case measure => simp [intOf] <;> omega
          · have i1 : ¬ (i : Int) < (n : Int) := by omega
            have hd : l.take i = l := List.take_of_length_le (by have := HN.out; omega)
            rw [hd, ← HST.out] at hrow
            have hR13 : R.size = 13 := by
              rw [HR.out, List.size_toArray, HST.out, rdC_len (by rw [updL_len]; exact hs)]
            have hrow' : wr.heap[w.heap.size]? = some (.cells R 73 (0, 0)) := by rw [HR.out]; exact hrow
            have h1c : R.all (·.oneCell') = true := by rw [HR.out]; exact rdC_one _
            have HZ3 := Lib.hid hz
            have HB3 := Lib.hid hb
            have HR3 := Lib.hid hrow'
            have H1C := Lib.hid h1c
            have H13R := Lib.hid hR13
            clear hd hrow hz hb hrow' h1c hR13
            go_wp2_with (first
              | (refine wpList_load_row rfl 73 _ rfl w.heap.size rfl _ _ _ _ HR3.out Tryz.underlying73 rfl (by rw [Tryz.infoRd, H13R.out]) ?_)
              | (refine wpList_store_row rfl 73 _ _ rfl (w.heap.size + 1) _ rfl rfl 73 Z HZ3.out (by rw [Tryz.infoRd, H13R.out]) (by rw [H13.out, H13R.out]) H1C.out ?_))
            refine bodyPost_ret (results_cell_row rfl _ _ (w.heap.size + 1) _ _ _ _ rfl (setRow_heap _ _ _ _ _ _ HZ3.out) Tryz.underlying73 rfl (by rw [Tryz.infoRd, H13R.out])) rfl ?_
            exact ⟨rfl, below_setRow HB3.out (by omega) _⟩
end Go.Proofs.YtbkcmgjmhglghaaGreatDoor
