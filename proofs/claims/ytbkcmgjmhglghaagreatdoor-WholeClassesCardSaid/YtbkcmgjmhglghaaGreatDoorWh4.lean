/-
  decide.fractions: the levels in memory.
-/
import Derived.Test.YtbkcmgjmhglghaaGreatDoorWh3
namespace Go.Proofs.YtbkcmgjmhglghaaGreatDoor
open Go.RowKit

/-- A state of a level: its digits, its text, the block of its trackers. -/
abbrev StM := List Nat × ByteArray × Nat
def stC (n : Nat) (e : StM) : List Value := [.string e.2.1, .slice (some ⟨e.2.2, 0, none⟩) n n, .bool (zer e.1)]
theorem stC_len (n : Nat) (e : StM) : (stC n e).length = 3 := rfl
structure LevR (W : World) (base : Nat) (l : List Rel) (k : Nat) (v : Value) (es : List StM) : Prop where
  own : W.ownsRow base 148 3 v es.length (es.flatMap (stC l.length))
  ent : ∀ e ∈ es, Digs e.1 ∧ e.1.length = k ∧ e.2.1.size = k ∧ TrAt W e.2.2 (trsOf l e.1)
theorem TrAt.grown {W W' : World} {b : Nat} {ts : List Tr} {row : Option Nat} (h : TrAt W b ts) (hg : W.grownBy W' row) (hne : row ≠ some b) : TrAt W' b ts := (hg.block b (Array.getElem?_eq_some_iff.1 h).1 (fun e => hne e.symm)).trans h
/-- The block that is turned is none of the level's. -/
theorem LevR.grow {W W' : World} {base k : Nat} {l : List Rel} {v : Value} {es : List StM} {row : Option Nat} (h : LevR W base l k v es) (hg : W.grownBy W' row) (h1 : v.ownBlock = none ∨ v.ownBlock ≠ row) (h2 : ∀ e ∈ es, row ≠ some e.2.2) : LevR W' base l k v es :=
  ⟨own_grow h.own hg h1, fun e he => by
    obtain ⟨a, b, c, d⟩ := h.ent e he
    exact ⟨a, b, c, d.grown hg (h2 e he)⟩⟩
theorem LevR.below {W W' : World} {base k : Nat} {l : List Rel} {v : Value} {es : List StM} (h : LevR W base l k v es) (hb : Below W.heap.size W W') : LevR W' base l k v es :=
  h.grow (row := none) (grown_below hb) (by cases v.ownBlock <;> simp) (fun _ _ => by simp)
/-- A block of another kind is turned. -/
theorem LevR.other {W W' : World} {base k j : Nat} {l : List Rel} {v : Value} {es : List StM} (h : LevR W base l k v es) (hg : W.grownBy W' (some j)) (hj : (∃ cs t, W.heap[j]? = some (.cells cs t (0, 0)) ∧ t ≠ 148 ∧ t ≠ 70) ∨ ∃ es clock, W.heap[j]? = some (.map es clock)) : LevR W' base l k v es := by
  refine h.grow hg ?_ ?_
  · rcases hv : v.ownBlock with _ | q
    · exact .inl rfl
    · refine .inr fun e => ?_
      injection e with e
      subst e
      obtain ⟨cs', hh⟩ := own_block_heap h.own hv
      rcases hj with ⟨cs, t, hc, ht, _⟩ | ⟨es, ck, hc⟩
      · exact ht (two_types hc hh)
      · rw [hh] at hc
        injection hc with hc
        cases hc
  · intro e he e'
    injection e' with e'
    subst e'
    obtain ⟨_, _, _, d⟩ := h.ent e he
    rcases hj with ⟨cs, t, hc, _, ht⟩ | ⟨es, ck, hc⟩
    · exact ht (two_types hc d)
    · rw [d] at hc
      injection hc with hc
      cases hc
theorem LevR.at {W : World} {base k : Nat} {l : List Rel} {v : Value} {es : List StM} (h : LevR W base l k v es) {i : Nat} {e : StM} (he : es[i]? = some e) : ∃ g cap, v = .slice (some ⟨g, 0, none⟩) es.length cap ∧ base ≤ g ∧ g < W.heap.size ∧ W.cell? ⟨g, i * 3, none⟩ = some (.string e.2.1) ∧ W.cell? ⟨g, i * 3 + 1, none⟩ = some (.slice (some ⟨e.2.2, 0, none⟩) l.length l.length) ∧ W.cell? ⟨g, i * 3 + 2, none⟩ = some (.bool (zer e.1)) := by
  have h' := h.own
  obtain ⟨hl, ⟨rfl, h0⟩ | ⟨g, cap, cur, rfl, hb, hg, _⟩⟩ := h'
  · have := (List.getElem?_eq_some_iff.1 he).1
    omega
  · refine ⟨g, cap, rfl, hb, (Array.getElem?_eq_some_iff.1 hg).1, ?_, ?_, ?_⟩
    · have := (own_cells h.own (j := i * 3 + 0) (x := .string e.2.1) (by rw [flat_get (stC l.length) 3 (stC_len _) es i 0 e he (by omega)]; rfl)).2.1
      simpa using this
    · exact (own_cells h.own (j := i * 3 + 1) (x := .slice (some ⟨e.2.2, 0, none⟩) l.length l.length) (by rw [flat_get (stC l.length) 3 (stC_len _) es i 1 e he (by omega)]; rfl)).2.1
    · exact (own_cells h.own (j := i * 3 + 2) (x := .bool (zer e.1)) (by rw [flat_get (stC l.length) 3 (stC_len _) es i 2 e he (by omega)]; rfl)).2.1
theorem LevR.nil (W : World) (base : Nat) (l : List Rel) (k : Nat) : LevR W base l k (.slice none 0 0) [] := ⟨World.ownsRow_nil _ _ _ _, fun _ h => by simp at h⟩
/-- All that lies in memory while a level is worked off. gx: the classes; levv: the level; nv: the next one; mb: the known keys. -/
structure FrR (w : World) (gx : Nat) (l : List Rel) (lv wv : Value) (k : Nat) (levv : Value) (es : List StM) (mb : Nat) (wr : World) (nv : Value) (nes : List StM) (fv : Value) (fs : List Pt) : Prop where
  xb : wr.heap[gx]? = some (.cells #[lv, wv, fv] 125 (0, 0))
  fr : PartsR wr w.heap.size fv fs
  lev : LevR wr w.heap.size l k levv es
  nxt : LevR wr w.heap.size l (k + 1) nv nes
  mp : MapB wr mb (nes.map fun e => keyD l e.1)
  g0 : w.grownBy wr (some gx)
  ne : nv.ownBlock = none ∨ nv.ownBlock ≠ levv.ownBlock
  hmb : w.heap.size ≤ mb
section
variable {w : World} {gx : Nat} {l : List Rel} {lv wv : Value} {k : Nat} {levv : Value} {es : List StM} {mb : Nat} {wr wr' : World} {nv : Value} {nes : List StM} {fv : Value} {fs : List Pt}
theorem FrR.size (h : FrR w gx l lv wv k levv es mb wr nv nes fv fs) : w.heap.size ≤ wr.heap.size := h.g0.size
theorem FrR.below (h : FrR w gx l lv wv k levv es mb wr nv nes fv fs) (hb : Below wr.heap.size wr wr') : FrR w gx l lv wv k levv es mb wr' nv nes fv fs where
  xb := (hb.block gx (Array.getElem?_eq_some_iff.1 h.xb).1).trans h.xb
  fr := own_grow h.fr (grown_below hb) (by cases fv.ownBlock <;> simp)
  lev := h.lev.below hb
  nxt := h.nxt.below hb
  mp := h.mp.kept (row := none) (grown_below hb) (by simp)
  g0 := h.g0.trans ((grown_below hb).but _)
  ne := h.ne
  hmb := h.hmb
theorem part_other {W : World} {base j : Nat} {v : Value} {ps : List Pt} (h : PartsR W base v ps) (hj : (∃ cs t, W.heap[j]? = some (.cells cs t (0, 0)) ∧ t ≠ 133) ∨ ∃ es clock, W.heap[j]? = some (.map es clock)) : v.ownBlock = none ∨ v.ownBlock ≠ some j := by
  rcases hv : v.ownBlock with _ | q
  · exact .inl rfl
  · refine .inr fun e => ?_
    injection e with e
    subst e
    obtain ⟨cs', hh⟩ := own_block_heap h hv
    rcases hj with ⟨cs, t, hc, ht⟩ | ⟨es, ck, hc⟩
    · exact ht (two_types hc hh)
    · rw [hh] at hc
      injection hc with hc
      cases hc
theorem own_ge {W : World} {base n : Nat} {e : TypeId} {size : Nat} {v : Value} {xs : List Value} (h : W.ownsRow base e size v n xs) {k : Nat} (hk : v.ownBlock = some k) : base ≤ k := by
  obtain ⟨_, ⟨rfl, _⟩ | ⟨g, cap, cur, rfl, hb, _⟩⟩ := h
  · simp [Value.ownBlock] at hk
  · simp [Value.ownBlock] at hk
    omega
theorem grown_step {w wr wr' : World} {gx : Nat} {row : Option Nat} (h : w.grownBy wr (some gx)) (hg : wr.grownBy wr' row) (hr : ∀ j, row = some j → w.heap.size ≤ j ∨ j = gx) : w.grownBy wr' (some gx) :=
  h.andThen hg fun j hj => by
    rcases hr j hj with h | h
    · exact .inl h
    · exact .inr (by rw [h])
/-- A new key in the map, a new state behind the next level. -/
theorem FrR.more (h : FrR w gx l lv wv k levv es mb wr nv nes fv fs) {wa : World} {e : StM} (hm : MapB wr' mb ((nes.map fun e => keyD l e.1) ++ [keyD l e.1])) (hg : wr.grownBy wr' (some mb)) (hb : Below wr'.heap.size wr' wa)
    (he : Digs e.1 ∧ e.1.length = k + 1 ∧ e.2.1.size = k + 1 ∧ TrAt wa e.2.2 (trsOf l e.1)) {w9 : World} {g9 cap9 : Nat} (ho : w9.ownsRow w.heap.size 148 3 (.slice (some ⟨g9, 0, none⟩) (nes.length + 1) cap9) (nes.length + 1) (nes.flatMap (stC l.length) ++ stC l.length e)) (hg9 : wa.grownBy w9 nv.ownBlock) (hl9 : nv.ownBlock = some g9 ∨ g9 = wa.heap.size) :
    FrR w gx l lv wv k levv es mb w9 (.slice (some ⟨g9, 0, none⟩) (nes.length + 1) cap9) (nes ++ [e]) fv fs := by
  obtain ⟨es0, ck0, hmap⟩ := h.mp.isMap
  have hmbgx : mb ≠ gx := by
    rintro rfl
    rw [h.xb] at hmap
    injection hmap with hmap
    cases hmap
  have x1 : wr'.heap[gx]? = some (.cells #[lv, wv, fv] 125 (0, 0)) := (hg.block gx (Array.getElem?_eq_some_iff.1 h.xb).1 (fun e => hmbgx (by injection e with e; exact e.symm))).trans h.xb
  have f1 := own_grow h.fr hg (part_other h.fr (.inr ⟨_, _, hmap⟩))
  have l1 := h.lev.other hg (.inr ⟨_, _, hmap⟩)
  have n1 := h.nxt.other hg (.inr ⟨_, _, hmap⟩)
  have g1 := grown_step h.g0 hg (fun j hj => by injection hj with hj; exact .inl (hj ▸ h.hmb))
  have x2 := (hb.block gx (Array.getElem?_eq_some_iff.1 x1).1).trans x1
  have f2 := own_grow f1 (grown_below hb) (by cases fv.ownBlock <;> simp)
  have l2 := l1.below hb
  have n2 := n1.below hb
  have m2 := hm.kept (row := none) (grown_below hb) (by simp)
  have g2 := g1.trans ((grown_below hb).but _)
  have hty : ∀ j, nv.ownBlock = some j → ∃ cs, wa.heap[j]? = some (.cells cs 148 (0, 0)) := fun j hj => own_block_heap n2.own hj
  have hrow : ∀ j, nv.ownBlock = some j → w.heap.size ≤ j := fun j hj => own_ge n2.own hj
  refine ⟨?_, ?_, ?_, ⟨?_, ?_⟩, ?_, ?_, ?_, h.hmb⟩
  · refine (hg9.block gx (Array.getElem?_eq_some_iff.1 x2).1 (fun e => ?_)).trans x2
    obtain ⟨cs, hh⟩ := hty gx e.symm
    exact absurd (two_types hh x2) (by decide)
  · refine own_grow f2 hg9 ?_
    rcases hn : fv.ownBlock with _ | q
    · exact .inl rfl
    · refine .inr fun e => ?_
      obtain ⟨cs, hh⟩ := hty q e.symm
      obtain ⟨cs', hh'⟩ := own_block_heap f2 hn
      exact absurd (two_types hh hh') (by decide)
  · refine l2.grow hg9 ?_ ?_
    · rcases h.ne with e | e
      · rcases hn : levv.ownBlock with _ | q
        · exact .inl rfl
        · rw [e]
          exact .inr (by simp)
      · exact .inr fun e' => e e'.symm
    · intro e' he' e1
      obtain ⟨cs, hh⟩ := hty _ e1
      exact absurd (two_types hh (l2.ent e' he').2.2.2) (by decide)
  · rw [List.length_append, List.flatMap_append]
    simpa using ho
  · intro e' he'
    rcases List.mem_append.1 he' with he' | he'
    · obtain ⟨a, b, c, d⟩ := n2.ent e' he'
      refine ⟨a, b, c, d.grown hg9 fun e1 => ?_⟩
      obtain ⟨cs, hh⟩ := hty _ e1
      exact absurd (two_types hh d) (by decide)
    · simp only [List.mem_singleton] at he'
      subst he'
      obtain ⟨a, b, c, d⟩ := he
      refine ⟨a, b, c, d.grown hg9 fun e1 => ?_⟩
      obtain ⟨cs, hh⟩ := hty _ e1
      exact absurd (two_types hh d) (by decide)
  · rw [List.map_append]
    refine m2.kept hg9 fun e1 => ?_
    obtain ⟨cs, hh⟩ := hty _ e1.symm
    obtain ⟨es1, ck1, hm1⟩ := m2.isMap
    rw [hh] at hm1
    injection hm1 with hm1
    cases hm1
  · exact grown_step g2 hg9 fun j hj => .inl (hrow j hj)
  · show (some g9 = none ∨ some g9 ≠ levv.ownBlock)
    refine .inr fun e1 => ?_
    rcases hl9 with e2 | e2
    · rcases h.ne with e3 | e3
      · rw [e3] at e2
        cases e2
      · exact e3 (e2.trans e1)
    · obtain ⟨cs, hh⟩ := own_block_heap l2.own e1.symm
      have := (Array.getElem?_eq_some_iff.1 hh).1
      omega
/-- keep has added a fraction, and x.fraction is stored. -/
theorem FrR.kept (h : FrR w gx l lv wv k levv es mb wr nv nes fv fs) {fv' : Value} {fs' : List Pt} (ho : PartsR wr' w.heap.size fv' fs') (hg : wr.grownBy wr' fv.ownBlock) : FrR w gx l lv wv k levv es mb (wr'.setCell ⟨gx, 2, none⟩ fv') nv nes fv' fs' := by
  have hty : ∀ j, fv.ownBlock = some j → ∃ cs, wr.heap[j]? = some (.cells cs 133 (0, 0)) := fun j hj => own_block_heap h.fr hj
  have hrow : ∀ j, fv.ownBlock = some j → w.heap.size ≤ j := fun j hj => own_ge h.fr hj
  have x2 : wr'.heap[gx]? = some (.cells #[lv, wv, fv] 125 (0, 0)) := by
    refine (hg.block gx (Array.getElem?_eq_some_iff.1 h.xb).1 (fun e => ?_)).trans h.xb
    obtain ⟨cs, hh⟩ := hty gx e.symm
    exact absurd (two_types hh h.xb) (by decide)
  have lev2 : ∀ {k v es}, LevR wr w.heap.size l k v es → LevR (wr'.setCell ⟨gx, 2, none⟩ fv') w.heap.size l k v es := fun {k v es} hl => by
    have h1 : LevR wr' w.heap.size l k v es := by
      rcases hf : fv.ownBlock with _ | j
      · rw [hf] at hg
        exact hl.grow hg (by cases v.ownBlock <;> simp) (fun _ _ => by simp)
      · rw [hf] at hg
        obtain ⟨cs, hh⟩ := hty j hf
        exact hl.other hg (.inl ⟨cs, _, hh, by decide, by decide⟩)
    exact h1.other (grown_setCell wr' ⟨gx, 2, none⟩ fv') (.inl ⟨_, _, x2, by decide, by decide⟩)
  refine ⟨?_, ?_, lev2 h.lev, lev2 h.nxt, ?_, ?_, h.ne, h.hmb⟩
  · rw [Lib.heap_setCell_same (i := 2) x2 fv']
    rfl
  · exact own_grow ho (grown_setCell wr' ⟨gx, 2, none⟩ fv') (part_other ho (.inl ⟨_, _, x2, by decide⟩))
  · obtain ⟨es0, ck0, hmap⟩ := h.mp.isMap
    have m1 : MapB wr' mb (nes.map fun e => keyD l e.1) := h.mp.kept hg fun e1 => by
      obtain ⟨cs, hh⟩ := hty _ e1.symm
      rw [hh] at hmap
      injection hmap with hmap
      cases hmap
    refine m1.kept (grown_setCell wr' ⟨gx, 2, none⟩ fv') fun e1 => ?_
    injection e1 with e1
    obtain ⟨es1, ck1, hm1⟩ := m1.isMap
    rw [e1] at hm1
    rw [x2] at hm1
    injection hm1 with hm1
    cases hm1
  · exact grown_step (grown_step h.g0 hg fun j hj => .inl (hrow j hj)) (grown_setCell wr' ⟨gx, 2, none⟩ fv') fun j hj => .inr (by injection hj with hj; exact hj.symm)
end
end Go.Proofs.YtbkcmgjmhglghaaGreatDoor
