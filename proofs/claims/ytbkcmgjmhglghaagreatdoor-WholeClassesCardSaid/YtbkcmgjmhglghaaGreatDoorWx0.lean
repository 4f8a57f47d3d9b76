/-
  explore: what lies in memory on the way.
-/
import Derived.Test.YtbkcmgjmhglghaaGreatDoorWk1
namespace Go.Proofs.YtbkcmgjmhglghaaGreatDoor
open Go.RowKit

def rowC (r : List Nat) : List Value := (List.range 11).map fun c => .int .i64 ((r.getD c 0 : Nat) : Int)
theorem rowC_len (r : List Nat) : (rowC r).length = 11 := by simp [rowC]
theorem rowC_get (r : List Nat) {c : Nat} (hc : c < 11) : (rowC r)[c]? = some (.int .i64 ((r.getD c 0 : Nat) : Int)) := by
  unfold rowC
  rw [List.getElem?_map, List.getElem?_range hc]
  rfl
theorem rowC_snoc (r : List Nat) (x : Nat) (_ : r.length < 11) : rowC (r ++ [x]) = (rowC r).set r.length (.int .i64 (x : Int)) := by
  apply List.ext_getElem?
  intro i
  by_cases hi : i < 11
  · rw [rowC_get _ hi, List.getElem?_set]
    by_cases he : r.length = i
    · subst he
      rw [if_pos rfl, if_pos (by rw [rowC_len]; exact hi)]
      simp [List.getD_eq_getElem?_getD]
    · rw [if_neg he, rowC_get _ hi]
      congr 3
      rw [List.getD_eq_getElem?_getD, List.getD_eq_getElem?_getD]
      rcases Nat.lt_or_ge i r.length with hl | hl
      · rw [List.getElem?_append_left hl]
      · rw [List.getElem?_eq_none (by simp; omega), List.getElem?_eq_none hl]
  · rw [List.getElem?_eq_none (by rw [rowC_len]; omega), List.getElem?_eq_none (by rw [List.length_set, rowC_len]; omega)]
theorem rowC_nil : (rowC []).toArray = #[.int .i64 0, .int .i64 0, .int .i64 0, .int .i64 0, .int .i64 0, .int .i64 0, .int .i64 0, .int .i64 0, .int .i64 0, .int .i64 0, .int .i64 0] := rfl

/-- A row's block, c places filled. -/
def RowIs (W : World) (g : Nat) (r : List Nat) : Prop := W.heap[g]? = some (.cells (rowC r).toArray 102 (0, 0))
theorem RowIs.cell {W : World} {g : Nat} {r : List Nat} (h : RowIs W g r) {c : Nat} (hc : c < 11) : W.cell? ⟨g, c, none⟩ = some (.int .i64 ((r.getD c 0 : Nat) : Int)) ∧ W.frozen? ⟨g, c, none⟩ = false := by
  refine ⟨?_, Lib.frozen_of_heap h c⟩
  rw [Lib.cell_of_heap h, List.getElem?_toArray]
  exact rowC_get r hc
theorem RowIs.set {W : World} {g : Nat} {r : List Nat} (h : RowIs W g r) (hl : r.length < 11) (x : Nat) : RowIs (W.setCell ⟨g, r.length, none⟩ (.int .i64 (x : Int))) g (r ++ [x]) := by
  have := Lib.heap_setCell_same (i := r.length) h (.int .i64 (x : Int))
  unfold RowIs
  rw [this, rowC_snoc r x hl]
  simp
theorem grown_setCell (w : World) (a : Addr) (u : Value) : w.grownBy (w.setCell a u) (some a.block) :=
  ⟨rfl, rfl, rfl, by simp, fun k _ hk => heap_setCell_other w a k u (fun e => hk (by rw [e]))⟩
theorem grown_alloc (w : World) (o : Obj) : w.grownBy (w.alloc o) none := World.grownBy_alloc w o none
theorem grown_below {w w' : World} (hb : Below w.heap.size w w') : w.grownBy w' none := ⟨hb.os, hb.tape, hb.output, hb.size, fun i hi _ => hb.block i hi⟩

section
variable {S : Type} (ET : TypeId) (ES : Nat) (cel : S → List Value)
/-- The rows of an exploration in memory: the states, the table's block with its two slices, the result's block. -/
structure ExR (w wr : World) (tb g6 : Nat) (st : List S) (next : List (List Nat)) (ac : List Bool) (sv nv av : Value) : Prop where
  own : wr.ownsRow w.heap.size ET ES sv st.length (st.flatMap cel)
  tab : wr.heap[tb]? = some (.cells #[nv, av] 67 (0, 0))
  nxt : wr.ownsRow w.heap.size 102 11 nv next.length (next.flatMap rowC)
  acc : wr.ownsRow w.heap.size 4 1 av ac.length (ac.map Value.bool)
  res : wr.heap[g6]? = some (.cells #[.slice none 0 0, .slice none 0 0] 67 (0, 0))
  bel : Below w.heap.size w wr
  ht : w.heap.size ≤ tb
  hg : w.heap.size ≤ g6
  hne : tb ≠ g6
variable {ET ES cel} {w wr w' : World} {tb g6 : Nat} {st : List S} {next : List (List Nat)} {ac : List Bool} {sv nv av : Value}
theorem own_block_heap {W : World} {base n : Nat} {e : TypeId} {size : Nat} {v : Value} {xs : List Value} (h : W.ownsRow base e size v n xs) {k : Nat} (hk : v.ownBlock = some k) : ∃ cs, W.heap[k]? = some (.cells cs e (0, 0)) := by
  obtain ⟨_, ⟨rfl, _⟩ | ⟨g, cap, cur, rfl, _, hh, _⟩⟩ := h
  · simp [Value.ownBlock] at hk
  · simp [Value.ownBlock] at hk
    subst hk
    exact ⟨_, hh⟩
/-- A block k that is none of the rows may be turned. -/
theorem ExR.grow (h : ExR ET ES cel w wr tb g6 st next ac sv nv av) {row : Option Nat} (hg : wr.grownBy w' row) (h1 : ∀ k, row = some k → w.heap.size ≤ k ∧ k ≠ tb ∧ k ≠ g6 ∧ sv.ownBlock ≠ some k ∧ nv.ownBlock ≠ some k ∧ av.ownBlock ≠ some k) :
    ExR ET ES cel w w' tb g6 st next ac sv nv av where
  own := own_grow h.own hg (by cases row with | none => (cases sv.ownBlock <;> simp) | some k => exact .inr (h1 k rfl).2.2.2.1)
  tab := (hg.block tb (Array.getElem?_eq_some_iff.1 h.tab).1 (fun e => (h1 tb e.symm).2.1 rfl)).trans h.tab
  nxt := own_grow h.nxt hg (by cases row with | none => (cases nv.ownBlock <;> simp) | some k => exact .inr (h1 k rfl).2.2.2.2.1)
  acc := own_grow h.acc hg (by cases row with | none => (cases av.ownBlock <;> simp) | some k => exact .inr (h1 k rfl).2.2.2.2.2)
  res := (hg.block g6 (Array.getElem?_eq_some_iff.1 h.res).1 (fun e => (h1 g6 e.symm).2.2.1 rfl)).trans h.res
  bel := h.bel.grown hg h.bel.size fun k e => (h1 k e).1
  ht := h.ht
  hg := h.hg
  hne := h.hne
theorem ExR.below (h : ExR ET ES cel w wr tb g6 st next ac sv nv av) (hb : Below wr.heap.size wr w') : ExR ET ES cel w w' tb g6 st next ac sv nv av := h.grow (row := none) (grown_below hb) (fun k e => by cases e)
/-- The map's block is turned. -/
theorem ExR.mapped (h : ExR ET ES cel w wr tb g6 st next ac sv nv av) {mb : Nat} (hm : ∃ es clock, wr.heap[mb]? = some (.map es clock)) (hmb : w.heap.size ≤ mb) (hg : wr.grownBy w' (some mb)) : ExR ET ES cel w w' tb g6 st next ac sv nv av := by
  obtain ⟨es, clock, hm⟩ := hm
  refine h.grow hg fun k e => ?_
  injection e with e
  subst e
  refine ⟨hmb, ?_, ?_, ?_, ?_, ?_⟩
  · rintro rfl; rw [h.tab] at hm; injection hm with hm; cases hm
  · rintro rfl; rw [h.res] at hm; injection hm with hm; cases hm
  · intro e; obtain ⟨cs, hh⟩ := own_block_heap h.own e; rw [hh] at hm; injection hm with hm; cases hm
  · intro e; obtain ⟨cs, hh⟩ := own_block_heap h.nxt e; rw [hh] at hm; injection hm with hm; cases hm
  · intro e; obtain ⟨cs, hh⟩ := own_block_heap h.acc e; rw [hh] at hm; injection hm with hm; cases hm
theorem two_types {W : World} {k : Nat} {c c' : Array Value} {t t' : TypeId} (h : W.heap[k]? = some (.cells c t (0, 0))) (h' : W.heap[k]? = some (.cells c' t' (0, 0))) : t = t' := by
  rw [h] at h'
  injection h' with h'
  injection h'
/-- Another state behind the states. -/
theorem ExR.more (h : ExR ET ES cel w wr tb g6 st next ac sv nv av) (e1 : ET ≠ 67) (e2 : ET ≠ 102) (e3 : ET ≠ 4) {s : S} {sv' : Value} (ho : w'.ownsRow w.heap.size ET ES sv' (st.length + 1) (st.flatMap cel ++ cel s)) (hg : wr.grownBy w' sv.ownBlock) :
    ExR ET ES cel w w' tb g6 (st ++ [s]) next ac sv' nv av := by
  have hk : ∀ k, sv.ownBlock = some k → w.heap.size ≤ k ∧ ∃ cs, wr.heap[k]? = some (.cells cs ET (0, 0)) := fun k hk => by
    refine ⟨?_, own_block_heap h.own hk⟩
    obtain ⟨_, ⟨rfl, _⟩ | ⟨g, cap, cur, rfl, hb, _⟩⟩ := h.own
    · simp [Value.ownBlock] at hk
    · simp [Value.ownBlock] at hk
      omega
  refine ⟨by simpa using ho, ?_, ?_, ?_, ?_, h.bel.grown hg h.bel.size fun k e => (hk k e).1, h.ht, h.hg, h.hne⟩
  · refine (hg.block tb (Array.getElem?_eq_some_iff.1 h.tab).1 (fun e => ?_)).trans h.tab
    obtain ⟨_, cs, hh⟩ := hk tb e.symm
    exact e1 (two_types hh h.tab)
  · refine own_grow h.nxt hg ?_
    rcases hn : nv.ownBlock with _ | k
    · exact .inl rfl
    · refine .inr fun e => ?_
      obtain ⟨_, cs, hh⟩ := hk k e.symm
      obtain ⟨cs', hh'⟩ := own_block_heap h.nxt hn
      exact e2 (two_types hh hh')
  · refine own_grow h.acc hg ?_
    rcases hn : av.ownBlock with _ | k
    · exact .inl rfl
    · refine .inr fun e => ?_
      obtain ⟨_, cs, hh⟩ := hk k e.symm
      obtain ⟨cs', hh'⟩ := own_block_heap h.acc hn
      exact e3 (two_types hh hh')
  · refine (hg.block g6 (Array.getElem?_eq_some_iff.1 h.res).1 (fun e => ?_)).trans h.res
    obtain ⟨_, cs, hh⟩ := hk g6 e.symm
    exact e1 (two_types hh h.res)
/-- Another row behind the rows. -/
theorem ExR.moreRow (h : ExR ET ES cel w wr tb g6 st next ac sv nv av) (e1 : ET ≠ 67) (e2 : ET ≠ 102) {r : List Nat} {nv' : Value} (ho : w'.ownsRow w.heap.size 102 11 nv' (next.length + 1) (next.flatMap rowC ++ rowC r)) (hg : wr.grownBy w' nv.ownBlock) :
    ExR ET ES cel w (w'.setCell ⟨tb, 0, none⟩ nv') tb g6 st (next ++ [r]) ac sv nv' av := by
  have hk : ∀ k, nv.ownBlock = some k → w.heap.size ≤ k ∧ ∃ cs, wr.heap[k]? = some (.cells cs 102 (0, 0)) := fun k hk => by
    refine ⟨?_, own_block_heap h.nxt hk⟩
    obtain ⟨_, ⟨rfl, _⟩ | ⟨g, cap, cur, rfl, hb, _⟩⟩ := h.nxt
    · simp [Value.ownBlock] at hk
    · simp [Value.ownBlock] at hk
      omega
  have t1 : w'.heap[tb]? = some (.cells #[nv, av] 67 (0, 0)) := by
    refine (hg.block tb (Array.getElem?_eq_some_iff.1 h.tab).1 (fun e => ?_)).trans h.tab
    obtain ⟨_, cs, hh⟩ := hk tb e.symm
    exact absurd (two_types hh h.tab) (by decide)
  have t2 : w'.heap[g6]? = some (.cells #[.slice none 0 0, .slice none 0 0] 67 (0, 0)) := by
    refine (hg.block g6 (Array.getElem?_eq_some_iff.1 h.res).1 (fun e => ?_)).trans h.res
    obtain ⟨_, cs, hh⟩ := hk g6 e.symm
    exact absurd (two_types hh h.res) (by decide)
  have o1 : w'.ownsRow w.heap.size ET ES sv st.length (st.flatMap cel) := by
    refine own_grow h.own hg ?_
    rcases hn : sv.ownBlock with _ | k
    · exact .inl rfl
    · refine .inr fun e => ?_
      obtain ⟨_, cs, hh⟩ := hk k e.symm
      obtain ⟨cs', hh'⟩ := own_block_heap h.own hn
      exact e2 (two_types hh' hh)
  have o2 : w'.ownsRow w.heap.size 4 1 av ac.length (ac.map Value.bool) := by
    refine own_grow h.acc hg ?_
    rcases hn : av.ownBlock with _ | k
    · exact .inl rfl
    · refine .inr fun e => ?_
      obtain ⟨_, cs, hh⟩ := hk k e.symm
      obtain ⟨cs', hh'⟩ := own_block_heap h.acc hn
      exact absurd (two_types hh' hh) (by decide)
  have hs := grown_setCell w' ⟨tb, 0, none⟩ nv'
  have ne : ∀ {v : Value} {base n size : Nat} {e : TypeId} {xs : List Value}, w'.ownsRow base e size v n xs → e ≠ 67 → v.ownBlock = none ∨ v.ownBlock ≠ some tb := fun {v base n size e xs} ho hne => by
    rcases hn : v.ownBlock with _ | k
    · exact .inl rfl
    · refine .inr fun e' => ?_
      injection e' with e'
      subst e'
      obtain ⟨cs', hh'⟩ := own_block_heap ho hn
      exact hne (two_types hh' t1)
  refine ⟨own_grow o1 hs (ne o1 e1), ?_, ?_, own_grow o2 hs (ne o2 (by decide)), ?_, ?_, h.ht, h.hg, h.hne⟩
  · have := Lib.heap_setCell_same (i := 0) t1 nv'
    rw [this]
    rfl
  · have := own_grow ho hs (ne ho (by decide))
    simpa using this
  · rw [heap_setCell_other _ _ _ _ (Ne.symm h.hne)]
    exact t2
  · exact (h.bel.grown hg h.bel.size fun k e => (hk k e).1).setCell (p := ⟨tb, 0, none⟩) h.ht _
/-- Another answer behind the answers. -/
theorem ExR.moreAcc (h : ExR ET ES cel w wr tb g6 st next ac sv nv av) (e1 : ET ≠ 67) (e3 : ET ≠ 4) {b : Bool} {av' : Value} (ho : w'.ownsRow w.heap.size 4 1 av' (ac.length + 1) (ac.map Value.bool ++ [.bool b])) (hg : wr.grownBy w' av.ownBlock) :
    ExR ET ES cel w (w'.setCell ⟨tb, 1, none⟩ av') tb g6 st next (ac ++ [b]) sv nv av' := by
  have hk : ∀ k, av.ownBlock = some k → w.heap.size ≤ k ∧ ∃ cs, wr.heap[k]? = some (.cells cs 4 (0, 0)) := fun k hk => by
    refine ⟨?_, own_block_heap h.acc hk⟩
    obtain ⟨_, ⟨rfl, _⟩ | ⟨g, cap, cur, rfl, hb, _⟩⟩ := h.acc
    · simp [Value.ownBlock] at hk
    · simp [Value.ownBlock] at hk
      omega
  have t1 : w'.heap[tb]? = some (.cells #[nv, av] 67 (0, 0)) := by
    refine (hg.block tb (Array.getElem?_eq_some_iff.1 h.tab).1 (fun e => ?_)).trans h.tab
    obtain ⟨_, cs, hh⟩ := hk tb e.symm
    exact absurd (two_types hh h.tab) (by decide)
  have t2 : w'.heap[g6]? = some (.cells #[.slice none 0 0, .slice none 0 0] 67 (0, 0)) := by
    refine (hg.block g6 (Array.getElem?_eq_some_iff.1 h.res).1 (fun e => ?_)).trans h.res
    obtain ⟨_, cs, hh⟩ := hk g6 e.symm
    exact absurd (two_types hh h.res) (by decide)
  have o1 : w'.ownsRow w.heap.size ET ES sv st.length (st.flatMap cel) := by
    refine own_grow h.own hg ?_
    rcases hn : sv.ownBlock with _ | k
    · exact .inl rfl
    · refine .inr fun e => ?_
      obtain ⟨_, cs, hh⟩ := hk k e.symm
      obtain ⟨cs', hh'⟩ := own_block_heap h.own hn
      exact e3 (two_types hh' hh)
  have o2 : w'.ownsRow w.heap.size 102 11 nv next.length (next.flatMap rowC) := by
    refine own_grow h.nxt hg ?_
    rcases hn : nv.ownBlock with _ | k
    · exact .inl rfl
    · refine .inr fun e => ?_
      obtain ⟨_, cs, hh⟩ := hk k e.symm
      obtain ⟨cs', hh'⟩ := own_block_heap h.nxt hn
      exact absurd (two_types hh' hh) (by decide)
  have hs := grown_setCell w' ⟨tb, 1, none⟩ av'
  have ne : ∀ {v : Value} {base n size : Nat} {e : TypeId} {xs : List Value}, w'.ownsRow base e size v n xs → e ≠ 67 → v.ownBlock = none ∨ v.ownBlock ≠ some tb := fun {v base n size e xs} ho hne => by
    rcases hn : v.ownBlock with _ | k
    · exact .inl rfl
    · refine .inr fun e' => ?_
      injection e' with e'
      subst e'
      obtain ⟨cs', hh'⟩ := own_block_heap ho hn
      exact hne (two_types hh' t1)
  refine ⟨own_grow o1 hs (ne o1 e1), ?_, own_grow o2 hs (ne o2 (by decide)), ?_, ?_, ?_, h.ht, h.hg, h.hne⟩
  · have := Lib.heap_setCell_same (i := 1) t1 av'
    rw [this]
    rfl
  · have := own_grow ho hs (ne ho (by decide))
    simpa using this
  · rw [heap_setCell_other _ _ _ _ (Ne.symm h.hne)]
    exact t2
  · exact (h.bel.grown hg h.bel.size fun k e => (hk k e).1).setCell (p := ⟨tb, 1, none⟩) h.ht _
end
theorem own_one {W : World} {base n : Nat} {e : TypeId} {size : Nat} {v : Value} {xs : List Value} (h : W.ownsRow base e size v n xs) : v.oneCell' = true := by
  obtain ⟨_, ⟨rfl, _⟩ | ⟨g, cap, cur, rfl, _⟩⟩ := h <;> rfl
theorem own_lt {W : World} {base n : Nat} {e : TypeId} {size : Nat} {v : Value} {xs : List Value} (h : W.ownsRow base e size v n xs) : v.ownBlock ≠ some W.heap.size := by
  intro hk
  obtain ⟨cs, hh⟩ := own_block_heap h hk
  have := (Array.getElem?_eq_some_iff.1 hh).1
  omega
/-- A cell of the row's block is written. -/
theorem ExR.rowset {S : Type} {ET : TypeId} {ES : Nat} {cel : S → List Value} {w wr : World} {tb g6 : Nat} {st : List S} {next : List (List Nat)} {ac : List Bool} {sv nv av : Value} (h : ExR ET ES cel w wr tb g6 st next ac sv nv av) (e2 : ET ≠ 102)
    {rb : Nat} {r : List Nat} (hrow : RowIs wr rb r) (hrb : w.heap.size ≤ rb) (hnv : nv.ownBlock ≠ some rb) (c : Nat) (u : Value) : ExR ET ES cel w (wr.setCell ⟨rb, c, none⟩ u) tb g6 st next ac sv nv av := by
  refine h.grow (grown_setCell wr ⟨rb, c, none⟩ u) fun k e => ?_
  injection e with e
  subst e
  refine ⟨hrb, ?_, ?_, ?_, hnv, ?_⟩
  · rintro rfl; exact absurd (two_types h.tab hrow) (by decide)
  · rintro rfl; exact absurd (two_types h.res hrow) (by decide)
  · intro e; obtain ⟨cs, hh⟩ := own_block_heap h.own e; exact e2 (two_types hh hrow)
  · intro e; obtain ⟨cs, hh⟩ := own_block_heap h.acc e; exact absurd (two_types hh hrow) (by decide)
theorem MapIs.rowset {S : Type} [DecidableEq S] {k : TypeId} {enc : S → Value} {U st : List S} {w : World} {b : Nat} (h : MapIs k enc U w b st) {rb : Nat} {r : List Nat} (hrow : RowIs w rb r) (c : Nat) (u : Value) : MapIs k enc U (w.setCell ⟨rb, c, none⟩ u) b st := by
  refine h.setCell ?_ u
  rintro rfl
  obtain ⟨es, clock, hm⟩ := h.isMap
  rw [hrow] at hm
  injection hm with hm
  cases hm
/-- The part of a table that is found. -/
structure Part {S : Type} (start : S) (step : S → Nat → S) (acc : S → Bool) (U st : List S) (next : List (List Nat)) (ac : List Bool) (i : Nat) : Prop where
  first : st[0]? = some start
  nodup : st.Nodup
  sub : ∀ s ∈ st, s ∈ U
  le : i ≤ st.length
  nlen : next.length = i
  alen : ac.length = i
  row : ∀ (i' : Nat) (r : List Nat), next[i']? = some r → r.length = 11
  step : ∀ (i' : Nat) (s : S), i' < i → st[i']? = some s → ∀ c, c < 11 → st[nx next i' c]? = some (step s c)
  acc : ∀ (i' : Nat) (s : S), i' < i → st[i']? = some s → ac.getD i' false = acc s
theorem Part.done {S : Type} {start : S} {step : S → Nat → S} {acc : S → Bool} {U st : List S} {next : List (List Nat)} {ac : List Bool} {i : Nat} (h : Part start step acc U st next ac i) (hi : i = st.length) : IsTab st start step acc next ac where
  first := h.first
  nlen := h.nlen.trans hi
  alen := h.alen.trans hi
  row := fun j s hs => by
    have hj := (List.getElem?_eq_some_iff.1 hs).1
    have hl : j < next.length := by rw [h.nlen, hi]; exact hj
    rw [List.getD_eq_getElem?_getD, List.getElem?_eq_getElem hl]
    exact h.row j _ (List.getElem?_eq_getElem hl)
  step := fun j s hs => h.step j s (by rw [hi]; exact (List.getElem?_eq_some_iff.1 hs).1) hs
  acc := fun j s hs => h.acc j s (by rw [hi]; exact (List.getElem?_eq_some_iff.1 hs).1) hs
/-- One row more. -/
theorem Part.next {S : Type} {start : S} {step : S → Nat → S} {acc : S → Bool} {U st st' ext : List S} {next : List (List Nat)} {ac : List Bool} {i : Nat} (h : Part start step acc U st next ac i) (he : st' = st ++ ext) (hn : st'.Nodup) (hs : ∀ s ∈ st', s ∈ U)
    {s : S} (hi : st[i]? = some s) {r : List Nat} (hr : r.length = 11) (hrow : ∀ c, c < 11 → st'[r.getD c 0]? = some (step s c)) : Part start step acc U st' (next ++ [r]) (ac ++ [acc s]) (i + 1) := by
  have hil := (List.getElem?_eq_some_iff.1 hi).1
  have old : ∀ {j : Nat} {x : S}, st[j]? = some x → st'[j]? = some x := fun {j x} hx => by
    rw [he, List.getElem?_append_left (List.getElem?_eq_some_iff.1 hx).1]
    exact hx
  have back : ∀ {j : Nat} {x : S}, j ≤ i → st'[j]? = some x → st[j]? = some x := fun {j x} hj hx => by
    rwa [he, List.getElem?_append_left (by omega)] at hx
  refine ⟨old h.first, hn, hs, by rw [he, List.length_append]; omega, by rw [List.length_append, h.nlen]; rfl, by rw [List.length_append, h.alen]; rfl, ?_, ?_, ?_⟩
  · intro j q hq
    rcases Nat.lt_or_ge j next.length with hl | hl
    · rw [List.getElem?_append_left hl] at hq
      exact h.row j q hq
    · rw [List.getElem?_append_right hl] at hq
      rcases hj : j - next.length with _ | k
      · rw [hj] at hq
        simp at hq
        rw [← hq]
        exact hr
      · rw [hj] at hq
        simp at hq
  · intro j x hj hx c hc
    by_cases hji : j < i
    · have := h.step j x hji (back (by omega) hx) c hc
      have e : nx (next ++ [r]) j c = nx next j c := by
        unfold nx
        rw [List.getD_eq_getElem?_getD (l := next ++ [r]), List.getElem?_append_left (by rw [h.nlen]; exact hji), ← List.getD_eq_getElem?_getD]
      rw [e]
      exact old this
    · have hji : j = i := by omega
      subst hji
      have hx' := back (Nat.le_refl _) hx
      rw [hi] at hx'
      injection hx' with hx'
      subst hx'
      have e : nx (next ++ [r]) j c = r.getD c 0 := by
        unfold nx
        rw [List.getD_eq_getElem?_getD (l := next ++ [r]), List.getElem?_append_right (by rw [h.nlen]; exact Nat.le_refl _), h.nlen, Nat.sub_self]
        rfl
      rw [e]
      exact hrow c hc
  · intro j x hj hx
    by_cases hji : j < i
    · have := h.acc j x hji (back (by omega) hx)
      rw [List.getD_eq_getElem?_getD, List.getElem?_append_left (by rw [h.alen]; exact hji), ← List.getD_eq_getElem?_getD]
      exact this
    · have hji : j = i := by omega
      subst hji
      have hx' := back (Nat.le_refl _) hx
      rw [hi] at hx'
      injection hx' with hx'
      subst hx'
      rw [List.getD_eq_getElem?_getD, List.getElem?_append_right (by rw [h.alen]; exact Nat.le_refl _), h.alen, Nat.sub_self]
      rfl
/-- The states that are found while a row is filled. -/
structure Fill {S : Type} (step : S → Nat → S) (U st st' : List S) (s : S) (r : List Nat) (c : Nat) : Prop where
  ext : ∃ e, st' = st ++ e
  nodup : st'.Nodup
  sub : ∀ s ∈ st', s ∈ U
  len : r.length = c
  row : ∀ c', c' < c → st'[r.getD c' 0]? = some (step s c')
theorem getD_snoc_lt {r : List Nat} {x c : Nat} (h : c < r.length) : (r ++ [x]).getD c 0 = r.getD c 0 := by
  rw [List.getD_eq_getElem?_getD, List.getD_eq_getElem?_getD, List.getElem?_append_left h]
theorem getD_snoc_eq {r : List Nat} {x : Nat} : (r ++ [x]).getD r.length 0 = x := by simp [List.getD_eq_getElem?_getD]
theorem Fill.old {S : Type} {step : S → Nat → S} {U st st' : List S} {s : S} {r : List Nat} {c j : Nat} (h : Fill step U st st' s r c) (hj : st'[j]? = some (step s c)) : Fill step U st st' s (r ++ [j]) (c + 1) := by
  refine ⟨h.ext, h.nodup, h.sub, by rw [List.length_append, h.len]; rfl, fun c' hc' => ?_⟩
  by_cases hcc : c' < c
  · rw [getD_snoc_lt (by rw [h.len]; exact hcc)]
    exact h.row c' hcc
  · have : c' = r.length := by rw [h.len]; omega
    rw [this, getD_snoc_eq, h.len]
    exact hj
theorem Fill.new {S : Type} {step : S → Nat → S} {U st st' : List S} {s : S} {r : List Nat} {c : Nat} (h : Fill step U st st' s r c) (hU : step s c ∈ U) (hn : step s c ∉ st') : Fill step U st (st' ++ [step s c]) s (r ++ [st'.length]) (c + 1) := by
  obtain ⟨e, he⟩ := h.ext
  refine ⟨⟨e ++ [step s c], by rw [he, List.append_assoc]⟩, ?_, ?_, by rw [List.length_append, h.len]; rfl, fun c' hc' => ?_⟩
  · refine List.nodup_append.2 ⟨h.nodup, by simp, ?_⟩
    intro a ha b hb
    simp at hb
    subst hb
    rintro rfl
    exact hn ha
  · intro x hx
    rcases List.mem_append.1 hx with hx | hx
    · exact h.sub x hx
    · simp at hx
      subst hx
      exact hU
  · by_cases hcc : c' < c
    · rw [getD_snoc_lt (by rw [h.len]; exact hcc), List.getElem?_append_left (List.getElem?_eq_some_iff.1 (h.row c' hcc)).1]
      exact h.row c' hcc
    · have : c' = r.length := by rw [h.len]; omega
      rw [this, getD_snoc_eq, h.len]
      simp
theorem cell_one_new (w : World) (v : Value) (e : TypeId) : ∀ j u, [v][j]? = some u → (w.alloc (.cells #[v] e)).cell? ((⟨w.heap.size, 0, none⟩ : Addr).add j) = some u := by
  intro j u hj
  rw [addr_add, Nat.zero_add, cell_of_row _ _ j _ _ _ (heap_alloc_new w _)]
  simpa using hj
theorem cells_new (w : World) (l : List Value) (e : TypeId) : ∀ j u, l[j]? = some u → (w.alloc (.cells l.toArray e)).cell? ((⟨w.heap.size, 0, none⟩ : Addr).add j) = some u := by
  intro j u hj
  rw [addr_add, Nat.zero_add, cell_of_row _ _ j _ _ _ (heap_alloc_new w _)]
  simpa using hj
theorem row11 {r : List Nat} (h : r.length = 11) : ∃ a0 a1 a2 a3 a4 a5 a6 a7 a8 a9 a10, r = [a0, a1, a2, a3, a4, a5, a6, a7, a8, a9, a10] := by
  match r, h with
  | [a0, a1, a2, a3, a4, a5, a6, a7, a8, a9, a10], _ => exact ⟨_, _, _, _, _, _, _, _, _, _, _, rfl⟩
theorem rowC_11 (a0 a1 a2 a3 a4 a5 a6 a7 a8 a9 a10 : Nat) : rowC [a0, a1, a2, a3, a4, a5, a6, a7, a8, a9, a10] = [.int .i64 (a0 : Nat), .int .i64 (a1 : Nat), .int .i64 (a2 : Nat), .int .i64 (a3 : Nat), .int .i64 (a4 : Nat), .int .i64 (a5 : Nat), .int .i64 (a6 : Nat), .int .i64 (a7 : Nat), .int .i64 (a8 : Nat), .int .i64 (a9 : Nat), .int .i64 (a10 : Nat)] := rfl
theorem RowIs.all {W : World} {g a0 a1 a2 a3 a4 a5 a6 a7 a8 a9 a10 : Nat} (h : RowIs W g [a0, a1, a2, a3, a4, a5, a6, a7, a8, a9, a10]) : W.cell? ⟨g, 0, none⟩ = some (.int .i64 (a0 : Nat)) ∧ W.cell? ⟨g, 1, none⟩ = some (.int .i64 (a1 : Nat)) ∧ W.cell? ⟨g, 2, none⟩ = some (.int .i64 (a2 : Nat)) ∧ W.cell? ⟨g, 3, none⟩ = some (.int .i64 (a3 : Nat)) ∧ W.cell? ⟨g, 4, none⟩ = some (.int .i64 (a4 : Nat)) ∧ W.cell? ⟨g, 5, none⟩ = some (.int .i64 (a5 : Nat)) ∧ W.cell? ⟨g, 6, none⟩ = some (.int .i64 (a6 : Nat)) ∧ W.cell? ⟨g, 7, none⟩ = some (.int .i64 (a7 : Nat)) ∧ W.cell? ⟨g, 8, none⟩ = some (.int .i64 (a8 : Nat)) ∧ W.cell? ⟨g, 9, none⟩ = some (.int .i64 (a9 : Nat)) ∧ W.cell? ⟨g, 10, none⟩ = some (.int .i64 (a10 : Nat)) := by
  refine ⟨?_, ?_, ?_, ?_, ?_, ?_, ?_, ?_, ?_, ?_, ?_⟩
  all_goals exact (h.cell (by omega)).1
theorem ExR.tabKept {S : Type} {ET : TypeId} {ES : Nat} {cel : S → List Value} {w wr w' : World} {tb g6 : Nat} {st : List S} {next : List (List Nat)} {ac : List Bool} {sv nv av : Value} (h : ExR ET ES cel w wr tb g6 st next ac sv nv av)
    {base n size : Nat} {e : TypeId} {v : Value} {xs : List Value} (ho : wr.ownsRow base e size v n xs) (he : e ≠ 67) (hg : wr.grownBy w' v.ownBlock) : w'.heap[tb]? = some (.cells #[nv, av] 67 (0, 0)) := by
  refine (hg.block tb (Array.getElem?_eq_some_iff.1 h.tab).1 (fun e' => ?_)).trans h.tab
  obtain ⟨cs, hh⟩ := own_block_heap ho e'.symm
  exact he (two_types hh h.tab)
theorem MapIs.keptOwn {S : Type} [DecidableEq S] {k : TypeId} {enc : S → Value} {U st : List S} {w w' : World} {b : Nat} (h : MapIs k enc U w b st) {base n size : Nat} {e : TypeId} {v : Value} {xs : List Value} (ho : w.ownsRow base e size v n xs) (hg : w.grownBy w' v.ownBlock) : MapIs k enc U w' b st := by
  refine h.kept hg fun e' => ?_
  obtain ⟨cs, hh⟩ := own_block_heap ho e'.symm
  obtain ⟨es, ck, hm⟩ := h.isMap
  rw [hm] at hh
  injection hh with hh
  cases hh
theorem MapIs.setAt {S : Type} [DecidableEq S] {k : TypeId} {enc : S → Value} {U st : List S} {w : World} {b : Nat} (h : MapIs k enc U w b st) {tb : Nat} {cs : Array Value} {t : TypeId} (ht : w.heap[tb]? = some (.cells cs t (0, 0))) (c : Nat) (u : Value) : MapIs k enc U (w.setCell ⟨tb, c, none⟩ u) b st := by
  refine h.setCell ?_ u
  rintro rfl
  obtain ⟨es, ck, hm⟩ := h.isMap
  rw [hm] at ht
  injection ht with ht
  cases ht
theorem MapIs.dr {S : Type} [DecidableEq S] {k : TypeId} {enc : S → Value} {U st : List S} {w : World} {b : Nat} (h : MapIs k enc U w b st) (n : Nat) : MapIs k enc U { w with drawn := n } b st := h
theorem wp_append_runI {P : Program} {w : World} {o : Oper} {a : Act} {K : Act → World → Prop} {Q : Exit → Act → World → Prop} (s x : Operand) (t : TypeId)
    (ho : o.op = .call { callee := .builtin .append, args := #[s, x], argTypes := #[t, t] }) (v u v' : Value) (w' : World) (hs : a.eval s = v) (hx : a.eval x = u)
    (hrun : (Builtin.append_ #[t, t] o.type #[v, u]).run P w = .ok v' w') (h : K (a.put o.dst v') w') : o.wp P a w K Q := by
  unfold Oper.wp
  simp [execOp, ho, resolve, invoke, builtin, hs, hx, hrun, Result.andThen]
  exact h
theorem step_append_runI {P : Program} {w : World} {ops : Array Oper} {o : Oper} {a : Act} {K : Act → World → Prop} {Q : Exit → Act → World → Prop} {E : Prop} {R : Value → World → Prop} (hgd : o.guard = none) (s x : Operand) (t : TypeId)
    (ho : o.op = .call { callee := .builtin .append, args := #[s, x], argTypes := #[t, t] }) (v u : Value) (hs : a.eval s = v) (hx : a.eval x = u)
    (hrun : ∃ v' w', (Builtin.append_ #[t, t] o.type #[v, u]).run P w = .ok v' w' ∧ R v' w') (h : ∀ v' w', R v' w' → K (a.put o.dst v') w') :
    if Region.wanted o (yielded ops a.tmps) = true then Oper.wp P o a w K Q else E := by
  have hw : Region.wanted o (yielded ops a.tmps) = true := by simp [Region.wanted, hgd]
  rw [if_pos hw]
  obtain ⟨v', w', r1, r2⟩ := hrun
  exact wp_append_runI s x t ho v u v' w' hs hx r1 (h v' w' r2)

theorem step_fn {P : Program} {w : World} {ops : Array Oper} {o : Oper} {a : Act} {K : Act → World → Prop} {Q : Exit → Act → World → Prop} {E : Prop} (hgd : o.guard = none) (x y : Operand) (t : TypeId)
    (ho : o.op = .call { callee := .value x, args := #[y], argTypes := #[t] }) (g : Nat) (lb : Array Value) (v : Value) (hx : a.eval x = .func (.func g) #[] lb) (hy : a.eval y = v) (eg : ∀ args W, (callFunc g args).run P W = .ok (.enter g args) W)
    {Post : Ending → World → Prop} (hc : Calls P g (#[v] ++ lb) w Post) (hK : ∀ e w', Post e w' → ∃ u, e = .returned u ∧ K (a.put o.dst u) w') :
    if Region.wanted o (yielded ops a.tmps) = true then Oper.wp P o a w K Q else E := by
  have hw : Region.wanted o (yielded ops a.tmps) = true := by simp [Region.wanted, hgd]
  rw [if_pos hw]
  unfold Oper.wp
  simp [execOp, ho, resolve, invoke, hx, hy, Deferred.ofValue]
  rw [eg, Oper.upon_enter]
  refine hc.mono fun e w' h => ?_
  obtain ⟨u, rfl, hk⟩ := hK e w' h
  exact hk
/-- What is said of a table's value. -/
def IsNext (w : World) (B : Nat) (v : Value) (next : List (List Nat)) : Prop := SlV v next.length B fun b o => ∀ i r, next[i]? = some r → ∀ c, c < 11 → w.cell? ⟨b, o + i * 11 + c, none⟩ = some (.int .i64 ((r.getD c 0 : Nat) : Int))
def IsBools (w : World) (B : Nat) (v : Value) (l : List Bool) : Prop := SlV v l.length B fun b o => ∀ i x, l[i]? = some x → w.cell? ⟨b, o + i, none⟩ = some (.bool x)
theorem IsNext.below {w w' : World} {B : Nat} {v : Value} {l : List (List Nat)} (h : IsNext w B v l) (hb : Below B w w') : IsNext w' B v l :=
  h.imp (Nat.le_refl _) fun b o hB hc i r hr c hcc => (hb.cell (p := ⟨b, o + i * 11 + c, none⟩) hB).trans (hc i r hr c hcc)
theorem IsBools.below {w w' : World} {B : Nat} {v : Value} {l : List Bool} (h : IsBools w B v l) (hb : Below B w w') : IsBools w' B v l :=
  h.imp (Nat.le_refl _) fun b o hB hc i x hx => (hb.cell (p := ⟨b, o + i, none⟩) hB).trans (hc i x hx)
theorem own_next {w : World} {base : Nat} {v : Value} {next : List (List Nat)} (h : w.ownsRow base 102 11 v next.length (next.flatMap rowC)) : IsNext w w.heap.size v next := by
  have h' := h
  obtain ⟨hl, ⟨rfl, h0⟩ | ⟨g, cap, cur, rfl, hb, hg, _⟩⟩ := h'
  · exact ⟨none, 0, by rw [h0], fun hp => by omega⟩
  · refine ⟨_, cap, rfl, fun _ => ⟨g, 0, rfl, (Array.getElem?_eq_some_iff.1 hg).1, fun i r hr c hc => ?_⟩⟩
    have := (own_cells h (j := i * 11 + c) (x := .int .i64 ((r.getD c 0 : Nat) : Int)) (by rw [flat_get rowC 11 rowC_len next i c r hr hc]; exact rowC_get r hc)).2.1
    rw [Nat.zero_add]
    exact this
theorem own_bools {w : World} {base : Nat} {v : Value} {l : List Bool} {e : TypeId} (h : w.ownsRow base e 1 v l.length (l.map Value.bool)) : IsBools w w.heap.size v l := by
  have h' := h
  obtain ⟨hl, ⟨rfl, h0⟩ | ⟨g, cap, cur, rfl, hb, hg, _⟩⟩ := h'
  · exact ⟨none, 0, by rw [h0], fun hp => by omega⟩
  · refine ⟨_, cap, rfl, fun _ => ⟨g, 0, rfl, (Array.getElem?_eq_some_iff.1 hg).1, fun i x hx => ?_⟩⟩
    have := (own_cells h (j := i) (x := .bool x) (by rw [List.getElem?_map, hx]; rfl)).2.1
    rw [Nat.zero_add]
    exact this
end Go.Proofs.YtbkcmgjmhglghaaGreatDoor
