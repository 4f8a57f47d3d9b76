/-
  decide.merged: what lies in memory, and the plain parts.
-/
import Derived.Test.YtbkcmgjmhglghaaGreatDoorWm1
import Derived.Deep.OwnRows
import Derived.Laws.OwnMore
namespace Go.Proofs.YtbkcmgjmhglghaaGreatDoor
open Go.RowKit

theorem made_row (w : World) (n : Nat) : IntRow (w.alloc (.cells (madeCells #[.int .i64 0] n) 3)) w.heap.size (List.replicate n 0) := by
  unfold IntRow
  rw [heap_alloc_new]
  congr 2
  apply Array.ext'
  rw [toList_madeCells_one]
  simp
/-- merged's own blocks: the table's box, the result, the variable class with its row. -/
structure MW (w wr : World) (gb g2 gc ck n : Nat) (nv av : Value) (cl : List Nat) : Prop where
  box : wr.heap[gb]? = some (.cells #[nv, av] 67 (0, 0))
  res : wr.heap[g2]? = some (.cells #[.slice none 0 0, .slice none 0 0] 67 (0, 0))
  var : wr.heap[gc]? = some (.cells #[.slice (some ⟨ck, 0, none⟩) n n] 85 (0, 0))
  row : IntRow wr ck cl
  bel : Below w.heap.size w wr
  hb : w.heap.size ≤ gb
  h2 : w.heap.size ≤ g2
  hc : w.heap.size ≤ gc
  hk : w.heap.size ≤ ck
  ne : gb ≠ g2
section
variable {w wr w' : World} {gb g2 gc ck n : Nat} {nv av : Value} {cl : List Nat}
theorem MW.lts (h : MW w wr gb g2 gc ck n nv av cl) : gb < wr.heap.size ∧ g2 < wr.heap.size ∧ gc < wr.heap.size ∧ ck < wr.heap.size :=
  ⟨(Array.getElem?_eq_some_iff.1 h.box).1, (Array.getElem?_eq_some_iff.1 h.res).1, (Array.getElem?_eq_some_iff.1 h.var).1, h.row.lt⟩
theorem MW.grow (h : MW w wr gb g2 gc ck n nv av cl) {row : Option Nat} (hg : wr.grownBy w' row) (h1 : ∀ k, row = some k → w.heap.size ≤ k ∧ k ≠ gb ∧ k ≠ g2 ∧ k ≠ gc ∧ k ≠ ck) : MW w w' gb g2 gc ck n nv av cl where
  box := (hg.block gb h.lts.1 (fun e => (h1 gb e.symm).2.1 rfl)).trans h.box
  res := (hg.block g2 h.lts.2.1 (fun e => (h1 g2 e.symm).2.2.1 rfl)).trans h.res
  var := (hg.block gc h.lts.2.2.1 (fun e => (h1 gc e.symm).2.2.2.1 rfl)).trans h.var
  row := (hg.block ck h.lts.2.2.2 (fun e => (h1 ck e.symm).2.2.2.2 rfl)).trans h.row
  bel := h.bel.grown hg h.bel.size fun k e => (h1 k e).1
  hb := h.hb
  h2 := h.h2
  hc := h.hc
  hk := h.hk
  ne := h.ne
theorem MW.below (h : MW w wr gb g2 gc ck n nv av cl) (hb : Below wr.heap.size wr w') : MW w w' gb g2 gc ck n nv av cl := h.grow (row := none) (grown_below hb) (fun k e => by cases e)
theorem MW.mapped (h : MW w wr gb g2 gc ck n nv av cl) {mb : Nat} (hm : ∃ es clock, wr.heap[mb]? = some (.map es clock)) (hmb : w.heap.size ≤ mb) (hg : wr.grownBy w' (some mb)) : MW w w' gb g2 gc ck n nv av cl := by
  obtain ⟨es, clock, hm⟩ := hm
  refine h.grow hg fun k e => ?_
  injection e with e
  subst e
  refine ⟨hmb, ?_, ?_, ?_, ?_⟩
  · rintro rfl; rw [h.box] at hm; injection hm with hm; cases hm
  · rintro rfl; rw [h.res] at hm; injection hm with hm; cases hm
  · rintro rfl; rw [h.var] at hm; injection hm with hm; cases hm
  · rintro rfl; have := h.row; unfold IntRow at this; rw [hm] at this; injection this with this; cases this
/-- A block that is none of them is written. -/
theorem MW.set (h : MW w wr gb g2 gc ck n nv av cl) {k : Nat} (hk : w.heap.size ≤ k) (h1 : k ≠ gb) (h2 : k ≠ g2) (h3 : k ≠ gc) (h4 : k ≠ ck) (c : Nat) (u : Value) : MW w (wr.setCell ⟨k, c, none⟩ u) gb g2 gc ck n nv av cl :=
  h.grow (grown_setCell wr ⟨k, c, none⟩ u) fun k' e => by
    injection e with e
    subst e
    exact ⟨hk, h1, h2, h3, h4⟩
theorem MW.setRow (h : MW w wr gb g2 gc ck n nv av cl) (h4 : ck ≠ gb) (h5 : ck ≠ g2) (h6 : ck ≠ gc) (i x : Nat) : MW w (wr.setCell ⟨ck, i, none⟩ (.int .i64 (x : Int))) gb g2 gc ck n nv av (cl.set i x) where
  box := by rw [heap_setCell_other _ _ _ _ (Ne.symm h4)]; exact h.box
  res := by rw [heap_setCell_other _ _ _ _ (Ne.symm h5)]; exact h.res
  var := by rw [heap_setCell_other _ _ _ _ (Ne.symm h6)]; exact h.var
  row := h.row.set i x
  bel := h.bel.setCell (p := ⟨ck, i, none⟩) h.hk _
  hb := h.hb
  h2 := h.h2
  hc := h.hc
  hk := h.hk
  ne := h.ne
/-- The variable takes another row. -/
theorem MW.setVar (h : MW w wr gb g2 gc ck n nv av cl) (h4 : gb ≠ gc) (h5 : g2 ≠ gc) {fk : Nat} {fin : List Nat} (hf : IntRow wr fk fin) (h6 : fk ≠ gc) (h7 : w.heap.size ≤ fk) : MW w (wr.setCell ⟨gc, 0, none⟩ (.slice (some ⟨fk, 0, none⟩) n n)) gb g2 gc fk n nv av fin where
  box := by rw [heap_setCell_other _ _ _ _ h4]; exact h.box
  res := by rw [heap_setCell_other _ _ _ _ h5]; exact h.res
  var := by
    have := Lib.heap_setCell_same (i := 0) h.var (.slice (some ⟨fk, 0, none⟩) n n)
    rw [this]
    rfl
  row := by
    unfold IntRow
    rw [heap_setCell_other _ _ _ _ h6]
    exact hf
  bel := h.bel.setCell (p := ⟨gc, 0, none⟩) h.hc _
  hb := h.hb
  h2 := h.h2
  hc := h.hc
  hk := h7
  ne := h.ne
theorem MW.varc (h : MW w wr gb g2 gc ck n nv av cl) : wr.cell? ⟨gc, 0, none⟩ = some (.slice (some ⟨ck, 0, none⟩) n n) ∧ wr.frozen? ⟨gc, 0, none⟩ = false := by
  refine ⟨?_, Lib.frozen_of_heap h.var 0⟩
  rw [Lib.cell_of_heap h.var]
  rfl
end
/-! ### The first classes -/
def cl0 (ac : List Bool) (i : Nat) : List Nat := (List.range ac.length).map fun j => if j < i ∧ ac.getD j false = true then 1 else 0
theorem cl0_len (ac : List Bool) (i : Nat) : (cl0 ac i).length = ac.length := by simp [cl0]
theorem cl0_get (ac : List Bool) (i j : Nat) (hj : j < ac.length) : (cl0 ac i).getD j 0 = if j < i ∧ ac.getD j false = true then 1 else 0 := by
  unfold cl0
  rw [List.getD_eq_getElem?_getD, List.getElem?_map, List.getElem?_range hj]
  rfl
theorem cl0_zero (ac : List Bool) : cl0 ac 0 = List.replicate ac.length 0 := by
  apply List.ext_getElem
  · simp [cl0]
  · intro i h1 h2
    simp [cl0]
theorem ext_getD {l m : List Nat} (hl : l.length = m.length) (h : ∀ i, i < l.length → l.getD i 0 = m.getD i 0) : l = m := by
  apply List.ext_getElem hl
  intro i h1 h2
  have := h i h1
  simpa [List.getD_eq_getElem?_getD, h1, h2] using this
theorem getD_set {l : List Nat} {i j x : Nat} (hi : i < l.length) : (l.set i x).getD j 0 = if i = j then x else l.getD j 0 := by
  rw [List.getD_eq_getElem?_getD, List.getElem?_set]
  split
  · first | rfl | (rw [if_pos (by omega)]; rfl)
  · rw [← List.getD_eq_getElem?_getD]
theorem cl0_true (ac : List Bool) (i : Nat) (hi : i < ac.length) (h : ac.getD i false = true) : (cl0 ac i).set i 1 = cl0 ac (i + 1) := by
  refine ext_getD (by simp [cl0]) fun j hj => ?_
  rw [List.length_set, cl0_len] at hj
  rw [getD_set (by rw [cl0_len]; exact hi), cl0_get _ _ _ hj, cl0_get _ _ _ hj]
  by_cases he : i = j
  · subst he
    rw [if_pos rfl, if_pos ⟨by omega, h⟩]
  · rw [if_neg he]
    by_cases ha : ac.getD j false = true
    · by_cases hlt : j < i
      · rw [if_pos ⟨hlt, ha⟩, if_pos ⟨by omega, ha⟩]
      · rw [if_neg (fun hh => hlt hh.1), if_neg (fun hh => by omega)]
    · rw [if_neg (fun hh => ha hh.2), if_neg (fun hh => ha hh.2)]
theorem cl0_false (ac : List Bool) (i : Nat) (h : ac.getD i false = false) : cl0 ac i = cl0 ac (i + 1) := by
  refine ext_getD (by simp [cl0]) fun j hj => ?_
  rw [cl0_len] at hj
  rw [cl0_get _ _ _ hj, cl0_get _ _ _ hj]
  by_cases ha : ac.getD j false = true
  · by_cases hlt : j < i
    · rw [if_pos ⟨hlt, ha⟩, if_pos ⟨by omega, ha⟩]
    · have : j ≠ i := by
        rintro rfl
        rw [h] at ha
        cases ha
      rw [if_neg (fun hh => hlt hh.1), if_neg (fun hh => by omega)]
  · rw [if_neg (fun hh => ha hh.2), if_neg (fun hh => ha hh.2)]
theorem cl0_acc (ac : List Bool) : AccOK ac.length ac (cl0 ac ac.length) := by
  intro i j hi hj he
  rw [cl0_get _ _ _ hi, cl0_get _ _ _ hj] at he
  generalize ac.getD i false = a at *
  generalize ac.getD j false = b at *
  cases a <;> cases b <;> simp [hi, hj] at he ⊢
theorem cl0_lt (ac : List Bool) (j : Nat) : (cl0 ac ac.length).getD j 0 < 2 := by
  by_cases hj : j < ac.length
  · rw [cl0_get _ _ _ hj]
    split <;> omega
  · rw [List.getD_eq_getElem?_getD, List.getElem?_eq_none (by rw [cl0_len]; omega)]
    show 0 < 2
    omega
/-! ### A round -/
structure Rnd (n : Nat) (next : List (List Nat)) (cl : List Nat) (i : Nat) (ks : List (List Nat)) (fin : List Nat) : Prop where
  nodup : ks.Nodup
  len : fin.length = n
  key : ∀ j, j < i → ks[fin.getD j 0]? = some (keyL next cl j)
  onto : ∀ q, q < ks.length → ∃ j, j < i ∧ fin.getD j 0 = q
theorem Rnd.old {n i q : Nat} {next : List (List Nat)} {cl fin : List Nat} {ks : List (List Nat)} (h : Rnd n next cl i ks fin) (hi : i < n) (hq : ks[q]? = some (keyL next cl i)) : Rnd n next cl (i + 1) ks (fin.set i q) := by
  have hl := h.len
  refine ⟨h.nodup, by rw [List.length_set]; exact hl, fun j hj => ?_, fun p hp => ?_⟩
  · rw [getD_set (by omega)]
    by_cases he : i = j
    · subst he
      rw [if_pos rfl]
      exact hq
    · rw [if_neg he]
      exact h.key j (by omega)
  · obtain ⟨j, hj, he⟩ := h.onto p hp
    exact ⟨j, by omega, by rw [getD_set (by omega), if_neg (by omega)]; exact he⟩
theorem Rnd.new {n i : Nat} {next : List (List Nat)} {cl fin : List Nat} {ks : List (List Nat)} (h : Rnd n next cl i ks fin) (hi : i < n) (hn : keyL next cl i ∉ ks) : Rnd n next cl (i + 1) (ks ++ [keyL next cl i]) (fin.set i ks.length) := by
  have hl := h.len
  refine ⟨?_, by rw [List.length_set]; exact hl, fun j hj => ?_, fun p hp => ?_⟩
  · refine List.nodup_append.2 ⟨h.nodup, by simp, ?_⟩
    intro a ha b hb
    simp at hb
    subst hb
    rintro rfl
    exact hn ha
  · rw [getD_set (by omega)]
    by_cases he : i = j
    · subst he
      rw [if_pos rfl]
      simp
    · rw [if_neg he, List.getElem?_append_left (List.getElem?_eq_some_iff.1 (h.key j (by omega))).1]
      exact h.key j (by omega)
  · rw [List.length_append] at hp
    by_cases hpl : p < ks.length
    · obtain ⟨j, hj, he⟩ := h.onto p hpl
      exact ⟨j, by omega, by rw [getD_set (by omega), if_neg (by omega)]; exact he⟩
    · refine ⟨i, by omega, ?_⟩
      rw [getD_set (by omega), if_pos rfl]
      simp at hp
      omega
theorem nodup_inj {α : Type} {l : List α} (h : l.Nodup) {i j : Nat} (hi : i < l.length) (hj : j < l.length) (he : l[i] = l[j]) : i = j := by
  have hp := List.pairwise_iff_getElem.1 h
  rcases Nat.lt_trichotomy i j with h1 | h1 | h1
  · exact absurd he (hp i j hi hj h1)
  · exact h1
  · exact absurd he.symm (hp j i hj hi h1)
theorem Rnd.finer {n : Nat} {next : List (List Nat)} {cl fin : List Nat} {ks : List (List Nat)} (h : Rnd n next cl n ks fin) : Finer n ks.length next cl fin := by
  refine ⟨⟨h.len, fun i hi => (List.getElem?_eq_some_iff.1 (h.key i hi)).1, h.onto⟩, fun i j hi hj => ⟨fun he => ?_, fun he => ?_⟩⟩
  · have h1 := h.key i hi
    rw [he, h.key j hj] at h1
    exact (Option.some.inj h1).symm
  · have h1 := h.key i hi
    have h2 := h.key j hj
    rw [← he] at h2
    obtain ⟨l1, e1⟩ := List.getElem?_eq_some_iff.1 h1
    obtain ⟨l2, e2⟩ := List.getElem?_eq_some_iff.1 h2
    exact nodup_inj h.nodup l1 l2 (e1.trans e2.symm)
theorem Rnd.le {n i : Nat} {next : List (List Nat)} {cl fin : List Nat} {ks : List (List Nat)} (h : Rnd n next cl i ks fin) : ks.length ≤ i := onto_le (f := fun j => fin.getD j 0) h.onto
/-! ### The first state of each class -/
structure Fst (n k : Nat) (cl : List Nat) (i : Nat) (fi : List Nat) : Prop where
  len : fi.length = k
  ok : ∀ j, i ≤ j → j < n → fi.getD (cl.getD j 0) 0 < n ∧ cl.getD (fi.getD (cl.getD j 0) 0) 0 = cl.getD j 0
theorem Fst.step {n k i : Nat} {cl fi : List Nat} (h : Fst n k cl (i + 1) fi) (hc : Cls n k cl) (hi : i < n) : Fst n k cl i (fi.set (cl.getD i 0) i) := by
  have hl := h.len
  have hk := hc.lt i hi
  refine ⟨by rw [List.length_set]; exact hl, fun j hj hjn => ?_⟩
  rw [getD_set (by omega)]
  by_cases he : cl.getD i 0 = cl.getD j 0
  · rw [if_pos he]
    exact ⟨hi, he⟩
  · rw [if_neg he]
    refine h.ok j ?_ hjn
    rcases Nat.lt_or_ge i j with h1 | h1
    · exact h1
    · have : i = j := by omega
      subst this
      exact absurd rfl he
theorem Fst.all {n k : Nat} {cl fi : List Nat} (h : Fst n k cl 0 fi) (hc : Cls n k cl) : ∀ j, j < k → fi.getD j 0 < n ∧ cl.getD (fi.getD j 0) 0 = j := fun j hj => by
  obtain ⟨i, hi, he⟩ := hc.onto j hj
  have := h.ok i (Nat.zero_le _) hi
  rw [he] at this
  exact this
end Go.Proofs.YtbkcmgjmhglghaaGreatDoor
