/-
  decide.classes.fractions.
-/
import Derived.Test.YtbkcmgjmhglghaaGreatDoorWh4
import Derived.StillTailTactics
namespace Go.Proofs.YtbkcmgjmhglghaaGreatDoor
open Go.RowKit

/-- What fractions leaves. -/
def FracP (gx : Nat) (l : List Rel) (lv wv : Value) (w : World) (e : Ending) (w' : World) : Prop :=
  e = .returned (.tuple #[]) ∧ ∃ fv fs, w'.heap[gx]? = some (.cells #[lv, wv, fv] 125 (0, 0)) ∧ PartsR w' w.heap.size fv fs ∧ w.grownBy w' (some gx) ∧ fs.length ≤ 10000000 ∧ (∀ q ∈ fs, q.2.size ≤ 6 ∧ q.1 < 18446744073709551616) ∧ ∀ d, Digs d → d.length ≤ 6 → ∃ q ∈ fs, q.1 = fbits l d
/-- The levels that are worked off. -/
structure LvP (w : World) (gx : Nat) (l : List Rel) (lv wv : Value) (k : Nat) (levv : Value) (es : List StM) (wr : World) (fv : Value) (fs : List Pt) : Prop where
  xb : wr.heap[gx]? = some (.cells #[lv, wv, fv] 125 (0, 0))
  fr : PartsR wr w.heap.size fv fs
  lev : LevR wr w.heap.size l k levv es
  g0 : w.grownBy wr (some gx)
  elen : es.length ≤ 10 ^ k
  cov : Cov l k (es.map (·.1))
  flen : fs.length ≤ 10 ^ k
  fok : ∀ q ∈ fs, q.2.size ≤ 6 ∧ q.1 < 18446744073709551616
  done : ∀ d, Digs d → d.length < k → ∃ q ∈ fs, q.1 = fbits l d
/-- Within a level. -/
structure MidP (l : List Rel) (k : Nat) (es : List StM) (fs : List Pt) (i : Nat) (nes : List StM) (fs2 : List Pt) : Prop where
  nlen : nes.length ≤ 10 * i
  ext : ∃ x, fs2 = fs ++ x
  flen : fs2.length ≤ fs.length + i
  fok : ∀ q ∈ fs2, q.2.size ≤ 6 ∧ q.1 < 18446744073709551616
  done : ∀ e ∈ es.take i, ∃ q ∈ fs2, q.1 = fbits l e.1
  next : ∀ e ∈ es.take i, ∀ x, x < 10 → ∃ e' ∈ nes, SameF l e'.1 (e.1 ++ [x])
theorem state_cells {W : World} {g : Nat} {a b c : Value} (h : W.heap[g]? = some (.cells #[a, b, c] 148 (0, 0))) : W.cell? ⟨g, 0, none⟩ = some a ∧ W.cell? ⟨g, 1, none⟩ = some b ∧ W.cell? ⟨g, 2, none⟩ = some c := by
  obtain ⟨h0, h1, h2, _⟩ := three_cells h
  exact ⟨h0, h1, h2⟩
theorem LvP.start {w : World} {gx n : Nat} {l : List Rel} {lv wv : Value} (hx : w.heap[gx]? = some (.cells #[lv, wv, .slice none 0 0] 125 (0, 0))) (hn : n = l.length) :
    LvP w gx l lv wv 0 (.slice (some ⟨w.heap.size + 1, 0, none⟩) 1 1) [([], ⟨#[]⟩, w.heap.size)] ((w.alloc (.cells ((List.replicate n ((0, 0) : Tr)).flatMap trC).toArray 70)).alloc (.cells #[.string ⟨#[]⟩, .slice (some ⟨w.heap.size, 0, none⟩) n n, .bool true] 148)) (.slice none 0 0) [] := by
  subst hn
  obtain ⟨wa, hwa⟩ : ∃ wa, wa = w.alloc (.cells ((List.replicate l.length ((0, 0) : Tr)).flatMap trC).toArray 70) := ⟨_, rfl⟩
  have hsz : wa.heap.size = w.heap.size + 1 := by rw [hwa]; simp
  have b1 : Below w.heap.size w wa := by rw [hwa]; exact (Below.refl _ _).alloc (Nat.le_refl _) _
  have b2 : Below wa.heap.size wa (wa.alloc (.cells #[.string ⟨#[]⟩, .slice (some ⟨w.heap.size, 0, none⟩) l.length l.length, .bool true] 148)) := (Below.refl _ _).alloc (Nat.le_refl _) _
  have t1 : TrAt wa w.heap.size (List.replicate l.length (0, 0)) := by rw [hwa]; exact TrAt.made w _
  have b3 := b1.trans (b2.mono b1.size)
  have hown := heap_alloc_new wa (.cells #[.string ⟨#[]⟩, .slice (some ⟨w.heap.size, 0, none⟩) l.length l.length, .bool true] 148)
  rw [← hwa]
  refine ⟨(b3.block gx (Array.getElem?_eq_some_iff.1 hx).1).trans hx, World.ownsRow_nil _ _ _ _, ⟨⟨rfl, .inr ⟨w.heap.size + 1, 1, #[.string ⟨#[]⟩, .slice (some ⟨w.heap.size, 0, none⟩) l.length l.length, .bool true], rfl, by omega, ?_, Nat.le_refl _, by unfold maxLen; omega, rfl, rfl⟩⟩, ?_⟩, (grown_below b3).but _, by simp, Cov.zero l, by simp, fun _ h => by simp at h, fun d _ hd => by omega⟩
  · rw [← hsz]
    exact hown
  · intro e he
    simp only [List.mem_singleton] at he
    subst he
    refine ⟨fun _ h => by simp at h, rfl, rfl, ?_⟩
    have e0 : trsOf l [] = List.replicate l.length (0, 0) := by
      unfold trsOf
      have : (fun r : Rel => frTr r []) = fun _ => ((0, 0) : Tr) := by
        funext r
        unfold frTr
        split <;> rfl
      rw [this, List.map_const']
    rw [e0]
    exact t1.below b2
theorem LvP.open {w wr : World} {gx k : Nat} {l : List Rel} {lv wv levv fv : Value} {es : List StM} {fs : List Pt} (h : LvP w gx l lv wv k levv es wr fv fs) : FrR w gx l lv wv k levv es wr.heap.size (wr.alloc (.map #[] 0)) (.slice none 0 0) [] fv fs := by
  have hb : Below wr.heap.size wr (wr.alloc (.map #[] 0)) := (Below.refl _ _).alloc (Nat.le_refl _) _
  exact ⟨(hb.block gx (Array.getElem?_eq_some_iff.1 h.xb).1).trans h.xb, own_grow h.fr (grown_below hb) (by cases fv.ownBlock <;> simp), h.lev.below hb, LevR.nil _ _ _ _, MapB.made wr, h.g0.trans ((grown_below hb).but _), .inl rfl, h.g0.size⟩
theorem LvP.next {w wr wq : World} {gx k mb : Nat} {l : List Rel} {lv wv levv nv fv fv2 : Value} {es nes : List StM} {fs fs2 : List Pt} (h : LvP w gx l lv wv k levv es wq fv fs) (hf : FrR w gx l lv wv k levv es mb wr nv nes fv2 fs2) (hm : MidP l k es fs es.length nes fs2) : LvP w gx l lv wv (k + 1) nv nes wr fv2 fs2 := by
  have h1 := h.elen
  have h2 := h.flen
  have h3 := hm.flen
  have h4 := hm.nlen
  have ht : es.take es.length = es := List.take_length
  have hp : 10 ^ (k + 1) = 10 * 10 ^ k := by rw [Nat.pow_succ, Nat.mul_comm]
  refine ⟨hf.xb, hf.fr, hf.nxt, hf.g0, by omega, ?_, by omega, hm.fok, ?_⟩
  · refine h.cov.next fun e he x hx => ?_
    obtain ⟨e0, he0, rfl⟩ := List.mem_map.1 he
    obtain ⟨e', he', hs⟩ := hm.next e0 (by rw [ht]; exact he0) x hx
    exact ⟨e'.1, List.mem_map.2 ⟨e', he', rfl⟩, hs⟩
  · intro d hd hdk
    by_cases hdk' : d.length < k
    · obtain ⟨q, hq, e⟩ := h.done d hd hdk'
      obtain ⟨x, hx⟩ := hm.ext
      exact ⟨q, by rw [hx]; exact List.mem_append_left _ hq, e⟩
    · obtain ⟨e, he, hs⟩ := h.cov d hd (by omega)
      obtain ⟨e0, he0, rfl⟩ := List.mem_map.1 he
      obtain ⟨q, hq, e2⟩ := hm.done e0 (by rw [ht]; exact he0)
      exact ⟨q, hq, e2.trans hs.bits⟩
theorem LvP.fin {w wr : World} {gx : Nat} {l : List Rel} {lv wv levv fv : Value} {es : List StM} {fs : List Pt} (h : LvP w gx l lv wv 7 levv es wr fv fs) : FracP gx l lv wv w (.returned (.tuple #[])) wr :=
  ⟨rfl, fv, fs, h.xb, h.fr, h.g0, h.flen, h.fok, fun d hd h6 => h.done d hd (by omega)⟩
theorem FrR.xkept {w wr wr' : World} {gx k mb : Nat} {l : List Rel} {lv wv levv nv fv : Value} {es nes : List StM} {fs : List Pt} (h : FrR w gx l lv wv k levv es mb wr nv nes fv fs) (hg : wr.grownBy wr' fv.ownBlock) : wr'.heap[gx]? = some (.cells #[lv, wv, fv] 125 (0, 0)) := by
  refine (hg.block gx (Array.getElem?_eq_some_iff.1 h.xb).1 (fun e => ?_)).trans h.xb
  obtain ⟨cs, hh⟩ := own_block_heap h.fr e.symm
  exact absurd (two_types hh h.xb) (by decide)
theorem FrR.fbkept {w wr wr' : World} {gx k mb fb : Nat} {l : List Rel} {lv wv levv nv fv u : Value} {es nes : List StM} {fs : List Pt} {cs : Array Value} (h : FrR w gx l lv wv k levv es mb wr nv nes fv fs) (hg : wr.grownBy wr' fv.ownBlock) (hf : wr.heap[fb]? = some (.cells cs 148 (0, 0))) :
    (wr'.setCell ⟨gx, 2, none⟩ u).heap[fb]? = some (.cells cs 148 (0, 0)) := by
  have h1 : wr'.heap[fb]? = some (.cells cs 148 (0, 0)) := by
    refine (hg.block fb (Array.getElem?_eq_some_iff.1 hf).1 (fun e => ?_)).trans hf
    obtain ⟨cs', hh⟩ := own_block_heap h.fr e.symm
    exact absurd (two_types hh hf) (by decide)
  rw [heap_setCell_other _ _ _ _ (by
    rintro rfl
    exact absurd (two_types hf h.xb) (by decide))]
  exact h1
theorem slice_form {W : World} {base n : Nat} {e : TypeId} {size : Nat} {v : Value} {xs : List Value} (h : W.ownsRow base e size v n xs) : ∃ a c, v = .slice a n c := by
  obtain ⟨_, ⟨rfl, h0⟩ | ⟨g, cap, cur, rfl, _⟩⟩ := h
  · exact ⟨none, 0, by rw [h0]⟩
  · exact ⟨_, _, rfl⟩
theorem s4_alloc {wr W : World} {p0 p2 px : Addr} {a b c : Value} (h : W.cell? p0 = some a ∧ W.cell? p2 = some b ∧ W.cell? px = some c ∧ Below wr.heap.size wr W) (o : Obj) : (W.alloc o).cell? p0 = some a ∧ (W.alloc o).cell? p2 = some b ∧ (W.alloc o).cell? px = some c ∧ Below wr.heap.size wr (W.alloc o) := by
  obtain ⟨h0, h1, h2, h3⟩ := h
  have hb : Below W.heap.size W (W.alloc o) := (Below.refl _ _).alloc (Nat.le_refl _) _
  have cc := fun p u (h : W.cell? p = some u) => (hb.cell (p := p) (World.block_lt_of_cell? W _ h)).trans h
  exact ⟨cc _ _ h0, cc _ _ h1, cc _ _ h2, h3.alloc h3.size _⟩
theorem s4_of {wr W : World} {p0 p2 px : Addr} {a b c : Value} (y0 : wr.cell? p0 = some a) (y2 : wr.cell? p2 = some b) (y3 : wr.cell? px = some c) (h3 : Below wr.heap.size wr W) : W.cell? p0 = some a ∧ W.cell? p2 = some b ∧ W.cell? px = some c ∧ Below wr.heap.size wr W := by
  have cc := fun p v (h : wr.cell? p = some v) => (h3.cell (p := p) (World.block_lt_of_cell? wr _ h)).trans h
  exact ⟨cc _ _ y0, cc _ _ y2, cc _ _ y3, h3⟩
theorem s4_set {wr W : World} {p0 p2 px q : Addr} {a b c u : Value} (y0 : wr.cell? p0 = some a) (y2 : wr.cell? p2 = some b) (y3 : wr.cell? px = some c) (hq : wr.heap.size ≤ q.block) (h : W.cell? p0 = some a ∧ W.cell? p2 = some b ∧ W.cell? px = some c ∧ Below wr.heap.size wr W) : (W.setCell q u).cell? p0 = some a ∧ (W.setCell q u).cell? p2 = some b ∧ (W.setCell q u).cell? px = some c ∧ Below wr.heap.size wr (W.setCell q u) := by
  have h3 := h.2.2.2.setCell hq u
  have cc := fun p v (h : wr.cell? p = some v) => (h3.cell (p := p) (World.block_lt_of_cell? wr _ h)).trans h
  exact ⟨cc _ _ y0, cc _ _ y2, cc _ _ y3, h3⟩
theorem g2_ab {n k : Nat} {S : ByteArray} (wr : World) (zc zd : Bool) (hz : zc = zd) (hS : S.size = k + 1) : Below wr.heap.size wr ((wr.alloc (.cells ((List.replicate n ((0, 0) : Tr)).flatMap trC).toArray 70)).alloc (.cells #[.string S, .slice (some ⟨wr.heap.size, 0, none⟩) n n, .bool zc] 148)).drew ∧ TrAt ((wr.alloc (.cells ((List.replicate n ((0, 0) : Tr)).flatMap trC).toArray 70)).alloc (.cells #[.string S, .slice (some ⟨wr.heap.size, 0, none⟩) n n, .bool zc] 148)).drew wr.heap.size (List.replicate n (0, 0)) ∧ ((wr.alloc (.cells ((List.replicate n ((0, 0) : Tr)).flatMap trC).toArray 70)).alloc (.cells #[.string S, .slice (some ⟨wr.heap.size, 0, none⟩) n n, .bool zc] 148)).drew.heap[wr.heap.size + 1]? = some (.cells #[.string S, .slice (some ⟨wr.heap.size, 0, none⟩) n n, .bool zd] 148 (0, 0)) ∧ S.size = k + 1 ∧ wr.heap.size ≤ wr.heap.size := by
  subst hz
  have h1 := TrAt.made wr n
  obtain ⟨w1, hw1⟩ : ∃ w1, w1 = wr.alloc (.cells ((List.replicate n ((0, 0) : Tr)).flatMap trC).toArray 70) := ⟨_, rfl⟩
  have b1 : Below wr.heap.size wr w1 := by rw [hw1]; exact (Below.refl _ _).alloc (Nat.le_refl _) _
  have hsz : w1.heap.size = wr.heap.size + 1 := by rw [hw1]; simp
  rw [← hw1] at h1 ⊢
  have b2 : Below w1.heap.size w1 (w1.alloc (.cells #[.string S, .slice (some ⟨wr.heap.size, 0, none⟩) n n, .bool zc] 148)).drew := ((Below.refl _ _).alloc (Nat.le_refl _) _).drew
  refine ⟨b1.trans (b2.mono (by omega)), h1.below b2, ?_, hS, Nat.le_refl _⟩
  rw [← hsz]
  exact heap_alloc_new w1 _
theorem g2_ba {n k : Nat} {S : ByteArray} (wr : World) (zc zd : Bool) (hz : zc = zd) (hS : S.size = k + 1) : Below wr.heap.size wr ((wr.alloc (.cells #[.string S, .slice (some ⟨wr.heap.size + 1, 0, none⟩) n n, .bool zc] 148)).alloc (.cells ((List.replicate n ((0, 0) : Tr)).flatMap trC).toArray 70)).drew ∧ TrAt ((wr.alloc (.cells #[.string S, .slice (some ⟨wr.heap.size + 1, 0, none⟩) n n, .bool zc] 148)).alloc (.cells ((List.replicate n ((0, 0) : Tr)).flatMap trC).toArray 70)).drew (wr.heap.size + 1) (List.replicate n (0, 0)) ∧ ((wr.alloc (.cells #[.string S, .slice (some ⟨wr.heap.size + 1, 0, none⟩) n n, .bool zc] 148)).alloc (.cells ((List.replicate n ((0, 0) : Tr)).flatMap trC).toArray 70)).drew.heap[wr.heap.size]? = some (.cells #[.string S, .slice (some ⟨wr.heap.size + 1, 0, none⟩) n n, .bool zd] 148 (0, 0)) ∧ S.size = k + 1 ∧ wr.heap.size ≤ wr.heap.size + 1 := by
  subst hz
  obtain ⟨w1, hw1⟩ : ∃ w1, w1 = wr.alloc (.cells #[.string S, .slice (some ⟨wr.heap.size + 1, 0, none⟩) n n, .bool zc] 148) := ⟨_, rfl⟩
  have h1 : w1.heap[wr.heap.size]? = some (.cells #[.string S, .slice (some ⟨wr.heap.size + 1, 0, none⟩) n n, .bool zc] 148 (0, 0)) := by rw [hw1]; exact heap_alloc_new wr _
  have b1 : Below wr.heap.size wr w1 := by rw [hw1]; exact (Below.refl _ _).alloc (Nat.le_refl _) _
  have hsz : w1.heap.size = wr.heap.size + 1 := by rw [hw1]; simp
  rw [← hw1]
  have b2 : Below w1.heap.size w1 (w1.alloc (.cells ((List.replicate n ((0, 0) : Tr)).flatMap trC).toArray 70)).drew := ((Below.refl _ _).alloc (Nat.le_refl _) _).drew
  refine ⟨b1.trans (b2.mono (by omega)), ?_, (b2.block _ (by omega)).trans h1, hS, Nat.le_succ _⟩
  rw [← hsz]
  exact TrAt.made w1 n
theorem cell_ne {W : World} {p q : Addr} {u : Value} (h : p.block ≠ q.block) : (W.setCell q u).cell? p = W.cell? p := World.cell?_of_block (w := W) (Below.heap_setCell W q u p.block h)
theorem c8_step {W w8 w0 : World} {p1 p2 p3 p4 p5 p6 p7 p8 : Addr} {v1 v2 v3 v4 v5 v6 v7 v8 : Value} (h : W.cell? p1 = some v1 ∧ W.cell? p2 = some v2 ∧ W.cell? p3 = some v3 ∧ W.cell? p4 = some v4 ∧ W.cell? p5 = some v5 ∧ W.cell? p6 = some v6 ∧ W.cell? p7 = some v7 ∧ W.cell? p8 = some v8 ∧ Below w0.heap.size w0 W) (hb : Below W.heap.size W w8) :
    w8.cell? p1 = some v1 ∧ w8.cell? p2 = some v2 ∧ w8.cell? p3 = some v3 ∧ w8.cell? p4 = some v4 ∧ w8.cell? p5 = some v5 ∧ w8.cell? p6 = some v6 ∧ w8.cell? p7 = some v7 ∧ w8.cell? p8 = some v8 ∧ Below w0.heap.size w0 w8 := by
  obtain ⟨h1, h2, h3, h4, h5, h6, h7, h8, h9⟩ := h
  have c := fun p u (h : W.cell? p = some u) => (hb.cell (p := p) (World.block_lt_of_cell? W _ h)).trans h
  exact ⟨c _ _ h1, c _ _ h2, c _ _ h3, c _ _ h4, c _ _ h5, c _ _ h6, c _ _ h7, c _ _ h8, h9.trans (hb.mono h9.size)⟩
theorem c8_set {W w0 : World} {p1 p2 p3 p4 p5 p6 p7 p8 q : Addr} {v1 v2 v3 v4 v5 v6 v7 v8 u : Value} (hq : w0.heap.size ≤ q.block) (h1 : p1.block ≠ q.block) (h2 : p2.block ≠ q.block) (h3 : p3.block ≠ q.block) (h4 : p4.block ≠ q.block) (h5 : p5.block ≠ q.block) (h6 : p6.block ≠ q.block) (h7 : p7.block ≠ q.block) (h8 : p8.block ≠ q.block)
    (h : W.cell? p1 = some v1 ∧ W.cell? p2 = some v2 ∧ W.cell? p3 = some v3 ∧ W.cell? p4 = some v4 ∧ W.cell? p5 = some v5 ∧ W.cell? p6 = some v6 ∧ W.cell? p7 = some v7 ∧ W.cell? p8 = some v8 ∧ Below w0.heap.size w0 W) :
    (W.setCell q u).cell? p1 = some v1 ∧ (W.setCell q u).cell? p2 = some v2 ∧ (W.setCell q u).cell? p3 = some v3 ∧ (W.setCell q u).cell? p4 = some v4 ∧ (W.setCell q u).cell? p5 = some v5 ∧ (W.setCell q u).cell? p6 = some v6 ∧ (W.setCell q u).cell? p7 = some v7 ∧ (W.setCell q u).cell? p8 = some v8 ∧ Below w0.heap.size w0 (W.setCell q u) := by
  obtain ⟨e1, e2, e3, e4, e5, e6, e7, e8, e9⟩ := h
  exact ⟨(cell_ne h1).trans e1, (cell_ne h2).trans e2, (cell_ne h3).trans e3, (cell_ne h4).trans e4, (cell_ne h5).trans e5, (cell_ne h6).trans e6, (cell_ne h7).trans e7, (cell_ne h8).trans e8, e9.setCell hq u⟩
theorem c8_b {W w0 : World} {p1 p2 p3 p4 p5 p6 p7 p8 : Addr} {v1 v2 v3 v4 v5 v6 v7 v8 : Value} (h : W.cell? p1 = some v1 ∧ W.cell? p2 = some v2 ∧ W.cell? p3 = some v3 ∧ W.cell? p4 = some v4 ∧ W.cell? p5 = some v5 ∧ W.cell? p6 = some v6 ∧ W.cell? p7 = some v7 ∧ W.cell? p8 = some v8 ∧ Below w0.heap.size w0 W) : Below w0.heap.size w0 W := h.2.2.2.2.2.2.2.2
theorem key_next (z : Bool) (ts : List Tr) (a b : Nat) : ba (Lib.formatBool z ++ ts.flatMap trK) ++ (⟨#[32]⟩ ++ ba (Lib.itoa a) ++ ⟨#[32]⟩ ++ ba (Lib.itoa b)) = ba (Lib.formatBool z ++ (ts ++ [((a : Int), (b : Int))]).flatMap trK) := by
  have e : (⟨#[32]⟩ : ByteArray) = ba [32] := rfl
  rw [e, ba_add, ba_add, ba_add, ba_add]
  congr 1
  simp [trK, List.append_assoc]
set_option maxRecDepth 100000 in
set_option maxHeartbeats 6400000 in
theorem fractions_any (gx : Nat) (lv wv : Value) (l : List Rel) (B : Nat) (w : World) (hx : w.heap[gx]? = some (.cells #[lv, wv, .slice none 0 0] 125 (0, 0))) (hv : IsRels w B lv l) (hB : B ≤ gx) (hl : ∀ r ∈ l, relB r = true) (h60 : l.length ≤ 60) (ht : Tab w) (hgt : (1 : Nat) < gx) :
    Calls Tryz.prog 80 #[.pointer (some ⟨gx, 0, none⟩)] w (FracP gx l lv wv w) := by
  have hgx := (Array.getElem?_eq_some_iff.1 hx).1
  obtain ⟨x0, x1, x2, x3, x4, x5⟩ := three_cells hx
  have hmk := fun W => made_trackers l.length (by omega) W
  have mk : ∀ W : World, (Instr.makeMap 150 none).run Tryz.prog W = .ok (.map (some W.heap.size)) (W.alloc (.map #[] 0)) := fun _ => rfl
  obtain ⟨j0, hj, hz0, hz1, hz2⟩ := info_parts (show (Tryz.prog.info? 148).map (fun i => (i.zero, i.size, i.bytes)) = some (some (.agg #[.string ⟨#[]⟩, .slice none 0 0, .bool false]), 3, 48) by kernel_rfl)
  have HV := Lib.hid hv
  obtain ⟨ao, cap, svs, hlv, hsv, hq⟩ := rels_fun hv
  obtain ⟨n, hn⟩ : ∃ n, n = l.length := ⟨_, rfl⟩
  rw [← hn] at hlv hq h60 hmk
  subst hlv
  obtain ⟨TA, hTA⟩ : ∃ TA, TA = ((List.replicate n ((0, 0) : Tr)).flatMap trC).toArray := ⟨_, rfl⟩
  rw [← hTA] at hmk
  have HTA := Lib.hid hTA
  clear hTA
  have HX := Lib.hid hx
  have HQ := Lib.hid hq
  have HSV := Lib.hid hsv
  have HN := Lib.hid hn
  have HL := Lib.hid hl
  have HB := Lib.hid hB
  have HT := Lib.hid ht
  have HGT := Lib.hid hgt
  have HGX := Lib.hid hgx
  have h60' := h60
  clear hx hv hq hsv hn hl hB ht hgt
  have HBG : Hid (∀ W, w.grownBy W (some gx) → Below gx w W) := Lib.hid fun W hW => (Below.refl gx w).grown hW (Nat.le_of_lt HGX.out) (fun k hk => by injection hk with hk; omega)
  go_enter Tryz.func80, Tryz.ntmps80
  go_wp2
  obtain ⟨w1, hw1⟩ : ∃ w1, w1 = (w.alloc (.cells TA 70)).alloc (.cells #[.string ⟨#[]⟩, .slice (some ⟨w.heap.size, 0, none⟩) n n, .bool true] 148) := ⟨_, rfl⟩
  rw [← hw1]
  have hlvp : LvP w gx l (.slice ao n cap) wv 0 (.slice (some ⟨w.heap.size + 1, 0, none⟩) 1 1) [([], ⟨#[]⟩, w.heap.size)] w1 (.slice none 0 0) [] := by
    rw [hw1, HTA.out]
    exact LvP.start HX.out HN.out
  have HLVP := Lib.hid hlvp
  clear hlvp hw1
  go_loopw [2, 3] (fun lvv kv wr => ∃ (k : Nat) (es : List StM) (fv : Value) (fs : List Pt), k ≤ 7 ∧ kv = .int .i64 k ∧ LvP w gx l (.slice ao n cap) wv k lvv es wr fv fs) (fun _ kv _ => 7 - (intOf kv).toNat)
  case atStart => exact ⟨0, _, _, _, by omega, rfl, HLVP.out⟩
  case round =>
    obtain ⟨k, es, fv, fs, hk7, rfl, hlp⟩ := hrel
    have k0 : (0 : Int) ≤ (k : Int) := by omega
    obtain ⟨m, hm⟩ : ∃ m, m = es.length := ⟨_, rfl⟩
    have hm7 : m ≤ 10 ^ k := by rw [hm]; exact hlp.elen
    by_cases hk6 : k ≤ 6
    · have k1 : (k : Int) ≤ 6 := by omega
      have hm6 : m ≤ 1000000 := Nat.le_trans hm7 (Nat.pow_le_pow_right (by omega) hk6)
      have hlevf : ∃ la lc, u2 = .slice la m lc := by
        rw [hm]
        obtain ⟨_, ⟨rfl, h0⟩ | ⟨g, cap, cur, rfl, _⟩⟩ := hlp.lev.own
        · exact ⟨none, 0, by rw [h0]⟩
        · exact ⟨_, _, rfl⟩
      obtain ⟨la, lc, rfl⟩ := hlevf
      have hsz := hlp.g0.size
      have HM := Lib.hid hm
      have HLP := Lib.hid hlp
      clear hm hlp hm7
      go_wp2
      obtain ⟨W0, hW0⟩ : ∃ W0, W0 = wr.heap.size := ⟨_, rfl⟩
      have hfr : FrR w gx l (.slice ao n cap) wv k (.slice la m lc) es W0 (wr.alloc (.map #[] 0)) (.slice none 0 0) [] fv fs := by
        rw [hW0]
        exact HLP.out.open
      have hmid : MidP l k es fs 0 [] fs := ⟨by simp, ⟨[], by simp⟩, Nat.le_refl _, HLP.out.fok, fun e he => by simp at he, fun e he => by simp at he⟩
      rw [← hW0]
      have HFR := Lib.hid hfr
      have HMID := Lib.hid hmid
      clear hfr hmid hW0
      go_loopw [4, 29] (fun nv iv wr => ∃ (i : Nat) (nes : List StM) (fv2 : Value) (fs2 : List Pt), i ≤ m ∧ iv = .int .i64 i ∧ FrR w gx l (.slice ao n cap) wv k (.slice la m lc) es W0 wr nv nes fv2 fs2 ∧ MidP l k es fs i nes fs2) (fun _ iv _ => m - (intOf iv).toNat)
      case atStart => exact ⟨0, _, _, _, Nat.zero_le _, rfl, HFR.out, HMID.out⟩
      case round =>
        obtain ⟨i, nes, fv2, fs2, hi, rfl, hfr, hmid⟩ := hrel
        have i0 : (0 : Int) ≤ (i : Int) := by omega
        by_cases hlt : i < m
        · have i1 : (i : Int) < (m : Int) := by omega
          obtain ⟨e, he⟩ : ∃ e, es[i]? = some e := ⟨_, List.getElem?_eq_getElem (by have := HM.out; omega)⟩
          obtain ⟨en1, en2, en3, en4⟩ := hfr.lev.ent e (List.mem_of_getElem? he)
          obtain ⟨g, cap', hve, hbg, hgl, c0, c1, c2⟩ := hfr.lev.at he
          injection hve with hve1 hve2 hve3
          subst hve1
          obtain ⟨d, s, tb⟩ := e
          simp only at en1 en2 en3 en4 c0 c1 c2
          rw [← HN.out] at c1
          obtain ⟨w2, hw2⟩ : ∃ w2, w2 = wr.alloc (.cells #[.string s, .slice (some ⟨tb, 0, none⟩) n n, .bool (zer d)] 148) := ⟨_, rfl⟩
          have hb2 : Below wr.heap.size wr w2 := by rw [hw2]; exact (Below.refl _ _).alloc (Nat.le_refl _) _
          have hfb : w2.heap[wr.heap.size]? = some (.cells #[.string s, .slice (some ⟨tb, 0, none⟩) n n, .bool (zer d)] 148 (0, 0)) := by rw [hw2]; exact heap_alloc_new wr _
          have hfr2 := hfr.below hb2
          have ht2 := en4.below hb2
          have hbw := HBG.out _ hfr2.g0
          have hbit := bits_any gx tb (.slice ao n cap) wv fv2 l true (trsOf l d) B w2 hfr2.xb (HV.out.below (hbw.mono HB.out)) (by have := HB.out; have := HGX.out; have := hfr2.size; omega) HL.out (by have := HN.out; omega) ht2 (by simp [trsOf])
          rw [← HN.out] at hbit
          have h63 : bitsOf l true (trsOf l d) < 2 ^ 60 := Nat.lt_of_lt_of_le (bitsN_lt _ _) (Nat.pow_le_pow_right (by omega) (by have := HN.out; omega))
          obtain ⟨N, hNb⟩ : ∃ N, N = bitsOf l true (trsOf l d) := ⟨_, rfl⟩
          rw [← hNb] at hbit h63
          have hor := u64_or (a := N) (b := 9223372036854775808) (by omega) (by omega)
          obtain ⟨N2, hN2⟩ : ∃ N2, N2 = N ||| 9223372036854775808 := ⟨_, rfl⟩
          rw [← hN2] at hor
          have hN2l : N2 < 18446744073709551616 := by rw [hN2]; exact Nat.or_lt_two_pow (n := 64) (by omega) (by omega)
          have hor' : Go.bits .or .u64 (N : Int) 9223372036854775808 = (N2 : Int) := hor
          obtain ⟨NB, hNB⟩ : ∃ NB, NB = fbits l d := ⟨_, rfl⟩
          have hNBz : NB = if zer d = true then N else N2 := by rw [hNB]; unfold fbits; rw [← hNb, ← hN2]
          have hNBl : NB < 18446744073709551616 := by rw [hNBz]; split <;> omega
          obtain ⟨fa, fn, fc, hfv⟩ : ∃ fa fn fc, fv2 = .slice fa fn fc := by
            obtain ⟨_, ⟨rfl, h0⟩ | ⟨g, cap, cur, rfl, _⟩⟩ := hfr.fr
            · exact ⟨none, 0, 0, rfl⟩
            · exact ⟨_, _, _, rfl⟩
          subst hfv
          have HNFB := Lib.hid (own_lt hfr.nxt.own)
          have HEN1 := Lib.hid en1
          have HEN2 := Lib.hid en2
          have HEN3 := Lib.hid en3
          have HHE := Lib.hid he
          have HMID := Lib.hid hmid
          have HFB := Lib.hid hfb
          have HFR := Lib.hid hfr2
          have HT2 := Lib.hid ht2
          have HBIT := Lib.hid hbit
          have HNB := Lib.hid hNB
          have HNBL := Lib.hid hNBl
          obtain ⟨WZ, hWZ⟩ : ∃ WZ, WZ = wr.heap.size := ⟨_, rfl⟩
          obtain ⟨zb, hzb⟩ : ∃ zb, zb = zer d := ⟨_, rfl⟩
          rw [← hzb] at c2 hw2 HFB hNBz
          have HZB := Lib.hid hzb
          have HNBZ := Lib.hid hNBz
          clear hfr hmid he en1 en2 en3 en4 hve2 hve3 hb2 hfb hfr2 ht2 hbw hbit hNb h63 hN2l hN2 hor hNB hNBl hzb hNBz
          go_upto_if 39 with (
            go_at_call 79
            rw [← hw2]
            refine (HBIT.out).mono ?_
            rintro e w3 ⟨rfl, hb3⟩
            have hfb3 := (hb3.block wr.heap.size (Array.getElem?_eq_some_iff.1 HFB.out).1).trans HFB.out
            obtain ⟨y0, y1, y2⟩ := state_cells hfb3
            have HFB3 := Lib.hid hfb3
            have hfr3 := HFR.out.below hb3
            obtain ⟨_, _, y3, _, _, y4⟩ := three_cells hfr3.xb
            have HFR3 := Lib.hid hfr3
            have HT3 := Lib.hid (HT2.out.below hb3)
            clear hb3 hfb3 hfr3)
          go_cut [8] (fun bv wx => bv = .int .u64 NB ∧ w3 = wx)
          case first =>
            cases zb
            · have e := HNBZ.out
              simp only [Bool.false_eq_true, if_false] at e
              subst e
              go_wp2
              go_meet
              exact ⟨rfl, rfl⟩
            · have e := HNBZ.out
              simp only [if_true] at e
              subst e
              go_wp2
              go_meet
              exact ⟨rfl, rfl⟩
          case rest =>
            obtain ⟨rfl, rfl⟩ := hcut
            go_upto_region 12 with fail
            have hkeep := fun W (hW : Below w3.heap.size w3 W) => keep_any w.heap.size (.slice fa fn fc) fs2 (NB, s) W (HFR3.out.below hW).fr (HFR3.out.below hW).size (by have h1 := HMID.out.flen; have h2 := HLP.out.flen; have h3 : 10 ^ k ≤ 10 ^ 6 := Nat.pow_le_pow_right (by omega) hk6; omega)
            have HKEEP := Lib.hid hkeep
            clear hkeep
            go_cut [42] (fun ov wx => ∃ kv fs3, FrR w gx l (.slice ao n cap) wv k (.slice (some ⟨g, 0, none⟩) m lc) es W0 wx u4 nes kv fs3 ∧ wx.heap[wr.heap.size]? = some (.cells #[.string s, .slice (some ⟨tb, 0, none⟩) n n, .bool zb] 148 (0, 0)) ∧ TrAt wx tb (trsOf l d) ∧ (∃ ext, fs3 = fs2 ++ ext) ∧ fs3.length ≤ fs2.length + 1 ∧ (∀ q ∈ fs3, q ∈ fs2 ∨ q = (NB, s)) ∧ ∃ q ∈ fs3, q.1 = NB)
            case first =>
              first
                | go_region_with (
                    go_at_call 78
                    refine (HKEEP.out _ (Below.refl _ _).drew).mono ?_
                    rintro e w5 ⟨kv, fs3, rfl, hk1, hk2, hk3, hk4, hk5, hk6'⟩
                    obtain ⟨ka, kc, rfl⟩ := slice_form hk1
                    have HFRD := Lib.hid (HFR3.out.below (Below.refl _ w3).drew)
                    obtain ⟨_, _, z2, _, _, z5⟩ := three_cells (HFRD.out.xkept hk6')
                    have hfr5 := HFRD.out.kept hk1 hk6'
                    have hfb5 := HFRD.out.fbkept (u := .slice ka fs3.length kc) hk6' HFB3.out
                    have HFR5 := Lib.hid hfr5
                    have HFB5 := Lib.hid hfb5
                    have HK2 := Lib.hid hk2
                    have HK3 := Lib.hid hk3
                    have HK4 := Lib.hid hk4
                    have HK5 := Lib.hid hk5
                    clear hk1 hk2 hk3 hk4 hk5 hk6' hfr5 hfb5)
                | fail
              all_goals
                go_wp2
                go_meet
                exact ⟨_, fs3, HFR5.out, HFB5.out, (HFR5.out.lev.ent _ (List.mem_of_getElem? HHE.out)).2.2.2, HK2.out, HK3.out, HK4.out, HK5.out⟩
            case rest =>
              obtain ⟨kv, fs3, hfr4, hfb4, ht4, hk2, hk3, hk4, hk5⟩ := hcut
              obtain ⟨fbb, hfbb⟩ : ∃ fbb, fbb = wr.heap.size := ⟨_, rfl⟩
              have hnfb := HNFB.out
              rw [← hfbb] at hfb4 hnfb ⊢
              have HK2 := Lib.hid hk2
              have HK3 := Lib.hid hk3
              have HK4 := Lib.hid hk4
              have HK5 := Lib.hid hk5
              have HFR4 := Lib.hid hfr4
              have HFB4 := Lib.hid hfb4
              have HNF4 := Lib.hid hnfb
              have htabw := fun W (hW : w.grownBy W (some gx)) => HT.out.below (HBG.out W hW) HGT.out
              have HTABW := Lib.hid htabw
              clear hk2 hk3 hk4 hk5 hfr4 hfb4 hnfb hfbb ht4 y0 y1 y2 y3 y4 htabw hor'
              go_wp2
              go_loopw [4, 54] (fun nv cv wr => ∃ (c : Nat) (nes2 : List StM), c ≤ 10 ∧ cv = .int .i64 c ∧ FrR w gx l (.slice ao n cap) wv k (.slice (some ⟨g, 0, none⟩) m lc) es W0 wr nv nes2 kv fs3 ∧ wr.heap[fbb]? = some (.cells #[.string s, .slice (some ⟨tb, 0, none⟩) n n, .bool zb] 148 (0, 0)) ∧ nv.ownBlock ≠ some fbb ∧ nes2.length ≤ nes.length + c ∧ (∃ x, nes2 = nes ++ x) ∧ ∀ x, x < c → ∃ e' ∈ nes2, SameF l e'.1 (d ++ [x])) (fun _ cv _ => 10 - (intOf cv).toNat)
              case atStart => exact ⟨0, nes, by omega, rfl, HFR4.out, HFB4.out, HNF4.out, by omega, ⟨[], by simp⟩, fun x hx => by omega⟩
              case round =>
                obtain ⟨c, nes2, hc10, rfl, hfr5, hfb5, hnf5, hnl5, hne5, hco5⟩ := hrel
                have cc0 : (0 : Int) ≤ (c : Int) := by omega
                obtain ⟨y0, y1, y2⟩ := state_cells hfb5
                obtain ⟨y3, _, _, _, _, _⟩ := three_cells hfr5.xb
                have HFR5 := Lib.hid hfr5
                have HFB5 := Lib.hid hfb5
                have HNF5 := Lib.hid hnf5
                have HNL5 := Lib.hid hnl5
                have HNE5 := Lib.hid hne5
                have HCO5 := Lib.hid hco5
                clear hfr5 hfb5 hnf5 hnl5 hne5 hco5
                by_cases hc : c < 10
                · have cc1 : (c : Int) < 10 := by omega
                  have hit := fun W => Tryz.strconv_Itoa_small c (by omega) W
                  rw [Lib.decDigits_one hc] at hit
                  obtain ⟨DS, hDS⟩ : ∃ DS : ByteArray, DS = ⟨[UInt8.ofNat (48 + c)].toArray⟩ := ⟨_, rfl⟩
                  rw [← hDS] at hit
                  have hds1 : DS.size = 1 := by rw [hDS]; rfl
                  have hss := HEN3.out
                  have HIT := Lib.hid hit
                  obtain ⟨wR, hwR⟩ : ∃ wR, wR = wr.heap.size := ⟨_, rfl⟩
                  clear hit hDS
                  go_upto_region 16 with fail
                  go_cut [10] (fun ov wx => ∃ (tb2 gb : Nat) (S : ByteArray), ov = .pointer (some ⟨gb, 0, none⟩) ∧ Below wr.heap.size wr wx ∧ TrAt wx tb2 (List.replicate n (0, 0)) ∧ wx.heap[gb]? = some (.cells #[.string S, .slice (some ⟨tb2, 0, none⟩) n n, .bool (zb && decide (c = 0))] 148 (0, 0)) ∧ S.size = k + 1 ∧ wr.heap.size ≤ tb2)
                  case first =>
                    have hadd := fun W => run_string_add_sum (P := Tryz.prog) W s DS (by omega)
                    have hss1 : (s ++ DS).size = k + 1 := by rw [ByteArray.size_append]; omega
                    have HSS1 := Lib.hid hss1
                    clear hss1
                    cases zb
                    case' false =>
                      first
                        | go_region_held (fun W => W.cell? ⟨fbb, 0, none⟩ = some (.string s) ∧ W.cell? ⟨fbb, 2, none⟩ = some (.bool false) ∧ W.cell? ⟨gx, 0, none⟩ = some (.slice ao n cap) ∧ Below wr.heap.size wr W) (first | assumption | exact ⟨y0, y2, y3, (Below.refl _ _).drew⟩ | exact s4_alloc (by assumption) _ | exact s4_of y0 y2 y3 (((Below.refl _ wr).alloc (Nat.le_refl _) _).alloc (Nat.le_of_lt (by simp)) _).drew | exact s4_set y0 y2 y3 (by first | exact Nat.le_refl _ | exact Nat.le_succ _) (s4_set y0 y2 y3 (by first | exact Nat.le_refl _ | exact Nat.le_succ _) (s4_set y0 y2 y3 (by first | exact Nat.le_refl _ | exact Nat.le_succ _) (by assumption))))
                            (first
                              | (go_at_call 75; refine (HIT.out _).mono ?_; rintro e w8 ⟨rfl, rfl⟩))
                        | fail
                    case' true =>
                      first
                        | go_region_held (fun W => W.cell? ⟨fbb, 0, none⟩ = some (.string s) ∧ W.cell? ⟨fbb, 2, none⟩ = some (.bool true) ∧ W.cell? ⟨gx, 0, none⟩ = some (.slice ao n cap) ∧ Below wr.heap.size wr W) (first | assumption | exact ⟨y0, y2, y3, (Below.refl _ _).drew⟩ | exact s4_alloc (by assumption) _ | exact s4_of y0 y2 y3 (((Below.refl _ wr).alloc (Nat.le_refl _) _).alloc (Nat.le_of_lt (by simp)) _).drew | exact s4_set y0 y2 y3 (by first | exact Nat.le_refl _ | exact Nat.le_succ _) (s4_set y0 y2 y3 (by first | exact Nat.le_refl _ | exact Nat.le_succ _) (s4_set y0 y2 y3 (by first | exact Nat.le_refl _ | exact Nat.le_succ _) (by assumption))))
                            (first
                              | (go_at_call 75; refine (HIT.out _).mono ?_; rintro e w8 ⟨rfl, rfl⟩))
                        | fail
                    all_goals
                        go_wp2
                        go_meet
                        rw [HTA.out]
                        first
                          | exact ⟨wr.heap.size, wr.heap.size + 1, s ++ DS, rfl, g2_ab wr _ _ (by by_cases h0 : c = 0 <;> simp [h0]) HSS1.out⟩
                          | exact ⟨wr.heap.size + 1, wr.heap.size, s ++ DS, rfl, g2_ba wr _ _ (by by_cases h0 : c = 0 <;> simp [h0]) HSS1.out⟩
                  case rest =>
                    obtain ⟨tb2, gb, S, rfl, hbC, htC, hgC, hSS, htb2⟩ := hcut
                    clear y0 y1 y2 y3 HIT hds1
                    obtain ⟨w0, hw0⟩ : ∃ w0, w0 = wr := ⟨_, rfl⟩
                    subst hw0
                    obtain ⟨zz, hzz⟩ : ∃ zz, zz = (zb && decide (c = 0)) := ⟨_, rfl⟩
                    rw [← hzz] at hgC
                    have hzz' : zz = zer (d ++ [c]) := by
                      rw [hzz, zer_snoc, ← HZB.out]
                      by_cases h0 : c = 0 <;> simp [h0]
                    obtain ⟨f, hf⟩ : ∃ f : Rel → Tr, f = fun r => frTr r (d ++ [c]) := ⟨_, rfl⟩
                    rw [HN.out, ← preT_zero l f] at htC
                    have hgt0 : gb ≠ tb2 := by
                      rintro rfl
                      exact absurd (two_types htC hgC) (by decide)
                    obtain ⟨y0, y1, y2⟩ := state_cells hgC
                    have hfrC := HFR5.out.below hbC
                    obtain ⟨y3, _, _, _, _, _⟩ := three_cells hfrC.xb
                    have HBC := Lib.hid hbC
                    have HTC := Lib.hid htC
                    have HGC := Lib.hid hgC
                    have HZZ := Lib.hid hzz'
                    have HF := Lib.hid hf
                    have HSS2 := Lib.hid hSS
                    have HTB2 := Lib.hid htb2
                    have HGT0 := Lib.hid hgt0
                    clear hbC htC hgC hzz hzz' hf hSS htb2 hfrC hgt0
                    have hfm := fun W => fmtBool_any zz W
                    obtain ⟨KB, hKB⟩ : ∃ KB : ByteArray, KB = ⟨(Lib.formatBool zz).toArray⟩ := ⟨_, rfl⟩
                    rw [← hKB] at hfm
                    have HKB := Lib.hid hKB
                    have HFM := Lib.hid hfm
                    clear hfm hKB
                    go_wp2_with (go_at_call 96; refine (HFM.out _).mono ?_; rintro e w8 ⟨rfl, rfl⟩)
                    go_loopw [11, 83] (fun kv jv wq => ∃ (j : Nat) (K : ByteArray), j ≤ n ∧ jv = .int .i64 j ∧ kv = .string K ∧ K = ba (Lib.formatBool zz ++ ((l.take j).map f).flatMap trK) ∧ TrAt wq tb2 (preT l f j) ∧ Below w0.heap.size w0 wq ∧ wq.heap[gb]? = some (.cells #[.string S, .slice (some ⟨tb2, 0, none⟩) n n, .bool zz] 148 (0, 0))) (fun _ jv _ => n - (intOf jv).toNat)
                    case atStart => exact ⟨0, _, Nat.zero_le _, rfl, rfl, by rw [HKB.out]; simp [ba], HTC.out, HBC.out, HGC.out⟩
                    case round =>
                      obtain ⟨j, K, hjle, rfl, rfl, hK, htQ, hbQ, hgQ⟩ := hrel
                      have jz : (0 : Int) ≤ (j : Int) := by omega
                      by_cases hjl : j < n
                      · have j1 : (j : Int) < (n : Int) := by omega
                        have hjl' : j < l.length := by have := HN.out; omega
                        obtain ⟨r, hr⟩ : ∃ r, l[j]? = some r := ⟨_, List.getElem?_eq_getElem hjl'⟩
                        have er' : l.getD j ⟨0, 0, false, []⟩ = r := by rw [List.getD_eq_getElem?_getD, hr]; rfl
                        have hrB := HL.out r (List.mem_of_getElem? hr)
                        have hsp := HSV.out j r hr
                        obtain ⟨b, o, rfl, hbB, hcc⟩ := HQ.out (by omega)
                        obtain ⟨q0, q1, q2, q3⟩ := hcc j hjl
                        rw [er'] at q0 q1 q2
                        have hw0s := HFR5.out.size
                        have hbG0 : Below gx w w0 := HBG.out _ HFR5.out.g0
                        have hbG := hbG0.trans (hbQ.mono (by have := HGX.out; omega))
                        have cc := fun k u (h : w.cell? ⟨b, k, none⟩ = some u) => (hbG.cell (p := ⟨b, k, none⟩) (by show b < gx; have := HB.out; omega)).trans h
                        have a0 := cc _ _ q0
                        have a1 := cc _ _ q1
                        have a2 := cc _ _ q2
                        have a3 := cc _ _ q3
                        have htT := (HFR5.out.lev.ent _ (List.mem_of_getElem? HHE.out)).2.2.2
                        have htT2 := htT.below hbQ
                        have htr : (trsOf l d)[j]? = some (frTr r d) := by simp [trsOf, hr]
                        have hrg := frTr_range hrB d
                        have hrg2 := frTr_range hrB (d ++ [c])
                        have hfr' : f r = if onWh r = true then (0, 0) else trRead r (frTr r d) true c := by rw [HF.out]; exact frTr_snoc r d c
                        have hfr'' : f r = frTr r (d ++ [c]) := by rw [HF.out]
                        rw [← hfr''] at hrg2
                        have hst1 := preT_set (f := f) hr
                        have hst2 := preT_skip (f := f) hr
                        have htk : (l.take (j + 1)).map f = (l.take j).map f ++ [f r] := by rw [List.take_add_one, hr]; simp
                        obtain ⟨op, md, nt, sp⟩ := r
                        simp only at a0 a1 a2
                        generalize svs j = sv at hsp q3 a3
                        have hon := fun W => onWhole_any op md nt sv sp W
                        obtain ⟨t, hte⟩ : ∃ t, t = frTr ⟨op, md, nt, sp⟩ d := ⟨_, rfl⟩
                        obtain ⟨t1, t2⟩ := t
                        rw [← hte] at htr hrg hfr'
                        have hth := fun W (hW : Below gx w W) => trRead_any op md nt sv sp t1 t2 true c B W (hsp.below (hW.mono HB.out)) (by have := HB.out; have := HGX.out; have := hW.size; omega) hrB hrg.1 hrg.2 hc
                        obtain ⟨aS, cS, rfl, _⟩ := hsp
                        obtain ⟨ms, hms⟩ : ∃ ms, ms = sp.length := ⟨_, rfl⟩
                        rw [← hms] at hon hth a3
                        obtain ⟨OW, hOW⟩ : ∃ OW, OW = onWh ⟨op, md, nt, sp⟩ := ⟨_, rfl⟩
                        rw [← hOW] at hon hfr'
                        obtain ⟨T, hTe⟩ : ∃ t, t = f ⟨op, md, nt, sp⟩ := ⟨_, rfl⟩
                        obtain ⟨T1, T2⟩ := T
                        rw [← hTe] at hrg2 hfr' hst1 hst2 htk
                        obtain ⟨U1, hU1⟩ : ∃ u : Nat, T1 = u := ⟨T1.toNat, by have := hrg2.1; simp only at this; omega⟩
                        obtain ⟨U2, hU2⟩ : ∃ u : Nat, T2 = u := ⟨T2.toNat, by have := hrg2.2; simp only at this; omega⟩
                        subst hU1 hU2
                        have hth' : OW = false → ∀ W, Below gx w W → Calls Tryz.prog 56 #[.agg #[.int .i64 t1, .int .i64 t2], .agg #[.int .i64 op, .int .i64 md, .bool nt, .slice aS ms cS], .bool true, .int .i64 c] W fun e w' => e = .returned (.agg #[.int .i64 U1, .int .i64 U2]) ∧ Below W.heap.size W w' := by
                          intro h0 W hW
                          have h1 := hth W hW
                          rw [h0] at hfr'
                          rw [if_neg (by simp)] at hfr'
                          rw [← hfr'] at h1
                          exact h1
                        have how0 : OW = true → preT l f (j + 1) = preT l f j := by
                          intro h0
                          rw [h0, if_pos rfl] at hfr'
                          exact hst2 hfr'
                        obtain ⟨u0, u1, _, _⟩ := htT2.cell htr
                        simp only at u0 u1
                        obtain ⟨w7, hw7⟩ : ∃ w7, w7 = wr.alloc (.cells #[.int .i64 op, .int .i64 md, .bool nt, .slice aS ms cS] 51) := ⟨_, rfl⟩
                        have hsx : w7.heap[wr.heap.size]? = some (.cells #[.int .i64 op, .int .i64 md, .bool nt, .slice aS ms cS] 51 (0, 0)) := by rw [hw7]; exact heap_alloc_new wr _
                        have hb7 : Below wr.heap.size wr w7 := by rw [hw7]; exact (Below.refl _ _).alloc (Nat.le_refl _) _
                        obtain ⟨_, g1, _⟩ := state_cells hgQ
                        have hfbQ := (hbQ.block fbb (Array.getElem?_eq_some_iff.1 HFB5.out).1).trans HFB5.out
                        obtain ⟨_, f1, _⟩ := state_cells hfbQ
                        obtain ⟨s0, s1, s2, s3⟩ := rel_cells hsx
                        have c7 := fun p u (h : wr.cell? p = some u) => (hb7.cell (p := p) (World.block_lt_of_cell? wr _ h)).trans h
                        have hS7 : w7.cell? ⟨gb, 1, none⟩ = some (.slice (some ⟨tb2, 0, none⟩) n n) ∧ w7.cell? ⟨fbb, 1, none⟩ = some (.slice (some ⟨tb, 0, none⟩) n n) ∧ w7.cell? ⟨tb, j * 2, none⟩ = some (.int .i64 t1) ∧ w7.cell? ⟨tb, j * 2 + 1, none⟩ = some (.int .i64 t2) ∧ w7.cell? ⟨wr.heap.size, 0, none⟩ = some (.int .i64 op) ∧ w7.cell? ⟨wr.heap.size, 1, none⟩ = some (.int .i64 md) ∧ w7.cell? ⟨wr.heap.size, 2, none⟩ = some (.bool nt) ∧ w7.cell? ⟨wr.heap.size, 3, none⟩ = some (.slice aS ms cS) ∧ Below w0.heap.size w0 w7 := ⟨c7 _ _ g1, c7 _ _ f1, c7 _ _ u0, c7 _ _ u1, s0, s1, s2, s3, hbQ.trans (hb7.mono hbQ.size)⟩
                        have ht7 := htQ.below hb7
                        have hg7 := (hb7.block gb (Array.getElem?_eq_some_iff.1 hgQ).1).trans hgQ
                        have HS7 := Lib.hid hS7
                        have HT7 := Lib.hid ht7
                        have HG7 := Lib.hid hg7
                        have HON := Lib.hid hon
                        have HTH := Lib.hid hth'
                        have HOW0 := Lib.hid how0
                        have HST1 := Lib.hid hst1
                        have HTK := Lib.hid htk
                        have HK := Lib.hid hK
                        have HRG2 := Lib.hid hrg2
                        have HBG0 := Lib.hid (show ∀ W, Below w0.heap.size w0 W → Below gx w W from fun W hW => hbG0.trans (hW.mono (by have := HGX.out; omega)))
                        have hneg : gb ≠ tb2 := HGT0.out
                        have hnef : fbb ≠ tb2 := by have := (Array.getElem?_eq_some_iff.1 HFB5.out).1; have := HTB2.out; omega
                        have hnet : tb ≠ tb2 := by have h1 : tb < w0.heap.size := (Array.getElem?_eq_some_iff.1 htT).1; have := HTB2.out; omega
                        have hner : wr.heap.size ≠ tb2 := by have h1 : tb2 < wr.heap.size := (Array.getElem?_eq_some_iff.1 htQ).1; omega
                        have HNE := Lib.hid (And.intro hneg (And.intro hnef (And.intro hnet hner)))
                        have hjlen : j < (preT l f j).length := by rw [preT_len (by omega)]; omega
                        have HJL := Lib.hid hjlen
                        have HPG := Lib.hid (preT_get (f := f) hjl')
                        clear hr er' hrB hcc q0 q1 q2 q3 hbB hbG0 hbG cc htT htT2 htr hrg hrg2 hfr' hfr'' hst1 hst2 htk hon hth hth' hte hms hOW hTe how0 u0 u1 hsx hb7 g1 f1 hfbQ s0 s1 s2 s3 c7 hS7 ht7 hg7 hneg hnef hnet hner hjlen htQ hbQ hgQ hK hw0s hjl'
                        go_upto_if 90 with (
                          go_at_call 76
                          rw [← hw7]
                          refine (HON.out _).mono ?_
                          rintro e w8 ⟨rfl, hb8⟩
                          have HS8 := Lib.hid (c8_step HS7.out hb8)
                          have HT8 := Lib.hid (HT7.out.below hb8)
                          have HG8 := Lib.hid ((hb8.block gb (Array.getElem?_eq_some_iff.1 HG7.out).1).trans HG7.out)
                          clear hb8)
                        go_cut [90] (fun bv wx => TrAt wx tb2 (preT l f (j + 1)) ∧ Below w0.heap.size w0 wx ∧ wx.heap[gb]? = some (.cells #[.string S, .slice (some ⟨tb2, 0, none⟩) n n, .bool zz] 148 (0, 0)))
                        case first =>
                          cases OW
                          case' true =>
                            go_wp2
                            go_meet
                            exact ⟨by rw [HOW0.out trivial]; exact HT8.out, c8_b HS8.out, HG8.out⟩
                          case' false =>
                            have hth := fun W hW => HTH.out rfl W (HBG0.out W hW)
                            have hS8 := HS8.out
                            go_upto_region 22 with fail
                            go_region_held3 (fun W => W.cell? ⟨gb, 1, none⟩ = some (.slice (some ⟨tb2, 0, none⟩) n n) ∧ W.cell? ⟨fbb, 1, none⟩ = some (.slice (some ⟨tb, 0, none⟩) n n) ∧ W.cell? ⟨tb, j * 2, none⟩ = some (.int .i64 t1) ∧ W.cell? ⟨tb, j * 2 + 1, none⟩ = some (.int .i64 t2) ∧ W.cell? ⟨wr.heap.size, 0, none⟩ = some (.int .i64 op) ∧ W.cell? ⟨wr.heap.size, 1, none⟩ = some (.int .i64 md) ∧ W.cell? ⟨wr.heap.size, 2, none⟩ = some (.bool nt) ∧ W.cell? ⟨wr.heap.size, 3, none⟩ = some (.slice aS ms cS) ∧ Below w0.heap.size w0 W) (first | assumption | exact c8_step hS8 (Below.refl _ _).drew | exact c8_set HTB2.out HNE.out.1 HNE.out.2.1 HNE.out.2.2.1 HNE.out.2.2.1 HNE.out.2.2.2 HNE.out.2.2.2 HNE.out.2.2.2 HNE.out.2.2.2 (c8_set HTB2.out HNE.out.1 HNE.out.2.1 HNE.out.2.2.1 HNE.out.2.2.1 HNE.out.2.2.2 HNE.out.2.2.2 HNE.out.2.2.2 HNE.out.2.2.2 (by assumption)))
                                  (first
                                    | (go_at_call 56; refine (hth _ (c8_b (by assumption))).mono ?_; rintro e w9 ⟨rfl, hb9⟩; have hS9 := c8_step (by assumption) hb9; have ht9 := (HT8.out.below (Below.refl _ w8).drew).below hb9; obtain ⟨z0, z1, z2, z3⟩ := ht9.cell HPG.out; have HT9 := Lib.hid ht9; have HG9 := Lib.hid (((hb9.block gb (Array.getElem?_eq_some_iff.1 HG8.out).1).trans (by rfl)).trans HG8.out); clear hb9 ht9))
                            go_wp2
                            go_meet
                            have hT0 := HT9.out.set2 HJL.out ((U1 : Int), (U2 : Int))
                            rw [HST1.out] at hT0
                            refine ⟨hT0, ((c8_b hS9).setCell HTB2.out _).setCell HTB2.out _, ?_⟩
                            rw [Below.heap_setCell _ _ _ _ HNE.out.1, Below.heap_setCell _ _ _ _ HNE.out.1]
                            exact HG9.out
                        case rest =>
                          obtain ⟨htN, hbN, hgN⟩ := hcut
                          obtain ⟨_, g1, _⟩ := state_cells hgN
                          have hgetN : (preT l f (j + 1))[j]? = some ((U1 : Int), (U2 : Int)) := by rw [← HST1.out, List.getElem?_set_self HJL.out]
                          obtain ⟨u0, u1, _, _⟩ := htN.cell hgetN
                          simp only at u0 u1
                          obtain ⟨A, hA⟩ : ∃ A : ByteArray, A = ba (Lib.itoa U1) := ⟨_, rfl⟩
                          obtain ⟨A2, hA2⟩ : ∃ A : ByteArray, A = ba (Lib.itoa U2) := ⟨_, rfl⟩
                          have hU1 : U1 ≤ 101 := by have := HRG2.out.1; omega
                          have hU2 : U2 ≤ 101 := by have := HRG2.out.2; omega
                          have hsA : A.size ≤ 21 := by rw [hA]; exact itoa_size U1 (by omega)
                          have hsA2 : A2.size ≤ 21 := by rw [hA2]; exact itoa_size U2 (by omega)
                          have hsK : K.size ≤ 2645 := by
                            rw [HK.out, ba_size]
                            have h1 := keyT_len (z := zz) (ts := (l.take j).map f) (by
                              intro t ht
                              obtain ⟨r, hr, rfl⟩ := List.mem_map.1 ht
                              rw [HF.out]
                              exact frTr_range (HL.out r (List.mem_of_mem_take hr)) _)
                            unfold keyT at h1
                            have h2 : ((l.take j).map f).length ≤ 60 := by rw [List.length_map, List.length_take]; omega
                            omega
                          have hi1 : ∀ W, Below w0.heap.size w0 W → Calls Tryz.prog 75 #[.int .i64 U1] W fun e w' => e = .returned (.string A) ∧ Below W.heap.size W w' := fun W hW => by
                            rw [hA]
                            exact itoa_any U1 (by omega) W (HT.out.below (HBG0.out W hW) HGT.out)
                          have hi2 : ∀ W, Below w0.heap.size w0 W → Calls Tryz.prog 75 #[.int .i64 U2] W fun e w' => e = .returned (.string A2) ∧ Below W.heap.size W w' := fun W hW => by
                            rw [hA2]
                            exact itoa_any U2 (by omega) W (HT.out.below (HBG0.out W hW) HGT.out)
                          have h32 : (⟨#[32]⟩ : ByteArray).size = 1 := rfl
                          obtain ⟨S1, hS1⟩ : ∃ X : ByteArray, X = ⟨#[32]⟩ ++ A := ⟨_, rfl⟩
                          have z1 : S1.size = 1 + A.size := by rw [hS1, ByteArray.size_append, h32]
                          obtain ⟨S2, hS2⟩ : ∃ X : ByteArray, X = S1 ++ ⟨#[32]⟩ := ⟨_, rfl⟩
                          have z2 : S2.size = S1.size + 1 := by rw [hS2, ByteArray.size_append, h32]
                          obtain ⟨S3, hS3⟩ : ∃ X : ByteArray, X = S2 ++ A2 := ⟨_, rfl⟩
                          have z3 : S3.size = S2.size + A2.size := by rw [hS3, ByteArray.size_append]
                          obtain ⟨K2, hK2⟩ : ∃ X : ByteArray, X = K ++ S3 := ⟨_, rfl⟩
                          have ad1 := fun W => run_string_add_sum (P := Tryz.prog) W ⟨#[32]⟩ A (by omega)
                          have ad2 := fun W => run_string_add_sum (P := Tryz.prog) W S1 ⟨#[32]⟩ (by omega)
                          have ad3 := fun W => run_string_add_sum (P := Tryz.prog) W S2 A2 (by omega)
                          have ad4 := fun W => run_string_add_sum (P := Tryz.prog) W K S3 (by omega)
                          rw [← hS1] at ad1
                          rw [← hS2] at ad2
                          rw [← hS3] at ad3
                          rw [← hK2] at ad4
                          have hkn : K2 = ba (Lib.formatBool zz ++ ((l.take (j + 1)).map f).flatMap trK) := by rw [HTK.out, hK2, hS3, hS2, hS1, hA, hA2, HK.out]; exact key_next _ _ _ _
                          have HKN := Lib.hid hkn
                          have HI1 := Lib.hid (fun W (hW : Below wc.heap.size wc W) => hi1 W (hbN.trans (hW.mono hbN.size)))
                          have HI2 := Lib.hid (fun W (hW : Below wc.heap.size wc W) => hi2 W (hbN.trans (hW.mono hbN.size)))
                          have HTN := Lib.hid htN
                          have HBN := Lib.hid hbN
                          have HGN := Lib.hid hgN
                          clear hkn hi1 hi2 htN hbN hgN hgetN hA hA2 hU1 hU2 hsA hsA2 hsK h32 hS1 hS2 hS3 hK2 z1 z2 z3
                          go_upto_region 23 with fail
                          refine wp_region_quiet (C := fun W => W.cell? ⟨gb, 1, none⟩ = some (.slice (some ⟨tb2, 0, none⟩) n n) ∧ W.cell? ⟨tb2, j * 2, none⟩ = some (.int .i64 U1) ∧ W.cell? ⟨tb2, j * 2 + 1, none⟩ = some (.int .i64 U2) ∧ Below wc.heap.size wc W) (by kernel_rfl) (by kernel_rfl) ⟨g1, u0, u1, (Below.refl _ _).drew⟩ ?_
                          dsimp only
                          repeat (first | go_big_quiet_skip | (go_big_quiet_want; go_big_quiet_op; first | go_big_quiet_on | (refine Exists.intro (Value.slice (some ⟨tb2, 0, none⟩) n n) (And.intro ?_ ?_); (focus (intro W q1 q2 q3 q4; rw [q1]; exact ⟨rfl, rfl⟩)); go_big_quiet_on) | (refine Exists.intro (Value.int .i64 U1) (And.intro ?_ ?_); (focus (intro W q1 q2 q3 q4; rw [q2]; exact ⟨rfl, rfl⟩)); go_big_quiet_on) | (refine Exists.intro (Value.int .i64 U2) (And.intro ?_ ?_); (focus (intro W q1 q2 q3 q4; rw [q3]; exact ⟨rfl, rfl⟩)); go_big_quiet_on) | (refine Exists.intro (Value.string A) (And.intro ?_ ?_); (focus (intro W q1 q2 q3 q4; exact (HI1.out W q4).mono (fun ex W2 hh => ⟨hh.1, ((hh.2).cell (p := ⟨gb, 1, none⟩) (World.block_lt_of_cell? W _ q1)).trans q1, ((hh.2).cell (p := ⟨tb2, j * 2, none⟩) (World.block_lt_of_cell? W _ q2)).trans q2, ((hh.2).cell (p := ⟨tb2, j * 2 + 1, none⟩) (World.block_lt_of_cell? W _ q3)).trans q3, q4.trans (hh.2.mono q4.size)⟩))); go_big_quiet_on) | (refine Exists.intro (Value.string A2) (And.intro ?_ ?_); (focus (intro W q1 q2 q3 q4; exact (HI2.out W q4).mono (fun ex W2 hh => ⟨hh.1, ((hh.2).cell (p := ⟨gb, 1, none⟩) (World.block_lt_of_cell? W _ q1)).trans q1, ((hh.2).cell (p := ⟨tb2, j * 2, none⟩) (World.block_lt_of_cell? W _ q2)).trans q2, ((hh.2).cell (p := ⟨tb2, j * 2 + 1, none⟩) (World.block_lt_of_cell? W _ q3)).trans q3, q4.trans (hh.2.mono q4.size)⟩))); go_big_quiet_on) | (refine ⟨_, fun _ _ _ _ _ => rfl, ?_⟩; go_big_quiet_on)))
                          refine wpQuiet_nil ?_
                          intro W hW
                          go_wp2
                          go_roundw
                          case rel => exact ⟨j + 1, K2, by omega, by go_num, rfl, HKN.out, HTN.out.below hW.2.2.2, HBN.out.trans (hW.2.2.2.mono HBN.out.size), (hW.2.2.2.block gb (Array.getElem?_eq_some_iff.1 HGN.out).1).trans HGN.out⟩
                          case measure => simp [intOf] <;> omega
                      · have j1 : ¬ (j : Int) < (n : Int) := by omega
                        have hjn : n = j := by omega
                        subst hjn
                        obtain ⟨KL, hKL⟩ : ∃ KL, KL = keyD l (d ++ [c]) := ⟨_, rfl⟩
                        have hK' : K = ba KL := by
                          rw [hK, hKL, HN.out, List.take_length, HZZ.out, HF.out]
                          rfl
                        subst hK'
                        have htD : TrAt wr tb2 (trsOf l (d ++ [c])) := by
                          rw [HN.out, preT_full, HF.out] at htQ
                          exact htQ
                        have hfrQ := HFR5.out.below hbQ
                        have hfbQ := (hbQ.block fbb (Array.getElem?_eq_some_iff.1 HFB5.out).1).trans HFB5.out
                        have hkl : KL.length ≤ 5000 := by
                          rw [hKL]
                          unfold keyD
                          have h1 := keyT_len (z := zer (d ++ [c])) (ts := trsOf l (d ++ [c])) (by
                            intro t ht
                            obtain ⟨r, hr, rfl⟩ := List.mem_map.1 ht
                            exact frTr_range (HL.out r hr) _)
                          have h2 : (trsOf l (d ++ [c])).length = n := by rw [HN.out]; simp [trsOf]
                          omega
                        have hn2 : nes2.length ≤ 10000020 := by have := HMID.out.nlen; have := HNL5.out; omega
                        have HMP := Lib.hid hfrQ.mp
                        have HKL5 := Lib.hid hkl
                        have HKL := Lib.hid hKL
                        have HFRQ := Lib.hid hfrQ
                        have HFBQ := Lib.hid hfbQ
                        have HTD := Lib.hid htD
                        have HGQ := Lib.hid hgQ
                        have HBQ := Lib.hid hbQ
                        have hdig : Digs (d ++ [c]) ∧ (d ++ [c]).length = k + 1 := ⟨fun x hx => by
                          rcases List.mem_append.1 hx with hx | hx
                          · exact HEN1.out x hx
                          · simp only [List.mem_singleton] at hx
                            omega, by simp [HEN2.out]⟩
                        have HDIG := Lib.hid hdig
                        clear hK hKL htD hfrQ hfbQ hkl htQ hbQ hgQ hdig
                        by_cases hm : KL ∈ nes2.map fun e => keyD l e.1
                        · have HMT := Lib.hid (show KL ∈ (nes2.map fun e => keyD l e.1) ↔ true = true from ⟨fun _ => rfl, fun _ => hm⟩)
                          clear hn2
                          go_wp2_with (refine wpList_lookV rfl _ _ rfl W0 (nes2.map fun e => keyD l e.1) rfl HMP.out KL HKL5.out rfl true HMT.out ?_)
                          go_roundw
                          case rel =>
                            refine ⟨c + 1, nes2, by omega, by go_num, HFRQ.out, HFBQ.out, HNF5.out, by have := HNL5.out; omega, HNE5.out, fun x hx => ?_⟩
                            by_cases hxc : x < c
                            · exact HCO5.out x hxc
                            · have : x = c := by omega
                              subst this
                              obtain ⟨e', he', hk'⟩ := List.mem_map.1 hm
                              rw [HKL.out] at hk'
                              exact ⟨e', he', keyD_inj HL.out hk'⟩
                          case measure => simp [intOf] <;> omega
                        · have HMT := Lib.hid (show KL ∈ (nes2.map fun e => keyD l e.1) ↔ false = true from ⟨fun h => absurd h hm, fun h => by simp at h⟩)
                          have HMAP := Lib.hid HFRQ.out.mp.isMap
                          clear hm
                          go_wp2_with (first
                            | (refine wpList_lookV rfl _ _ rfl W0 (nes2.map fun e => keyD l e.1) rfl HMP.out KL HKL5.out rfl false HMT.out ?_)
                            | (refine wpList_putB rfl _ _ _ rfl W0 (nes2.map fun e => keyD l e.1) rfl HMP.out (by rw [List.length_map]; omega) KL HKL5.out rfl rfl ?_
                               intro w5 hm5 hg5
                               obtain ⟨es0, ck0, hmap⟩ := HMAP.out
                               have hne5 : gb ≠ W0 := by
                                 rintro rfl
                                 rw [HGQ.out] at hmap
                                 injection hmap with hmap
                                 cases hmap
                               have hgb5 := (hg5.block gb (Array.getElem?_eq_some_iff.1 HGQ.out).1 (fun e => hne5 (by injection e))).trans HGQ.out
                               have hfb5' : fbb ≠ W0 := by
                                 rintro rfl
                                 rw [HFBQ.out] at hmap
                                 injection hmap with hmap
                                 cases hmap
                               have hfbb5 := (hg5.block fbb (Array.getElem?_eq_some_iff.1 HFBQ.out).1 (fun e => hfb5' (by injection e))).trans HFBQ.out
                               have htb5' : tb2 ≠ W0 := by
                                 rintro rfl
                                 rw [HTD.out] at hmap
                                 injection hmap with hmap
                                 cases hmap
                               have htb5 := HTD.out.grown hg5 (fun e => htb5' (by injection e with e; exact e.symm))
                               obtain ⟨y0, y1, y2⟩ := state_cells hgb5
                               have hown5 := (HFRQ.out.nxt.other hg5 (.inr ⟨_, _, hmap⟩)).own.alloc (.cells #[.string S, .slice (some ⟨tb2, 0, none⟩) n n, .bool zz] 148)
                               have hsz5 : w.heap.size ≤ w5.heap.size := Nat.le_trans HFRQ.out.size hg5.size
                               have HM5 := Lib.hid hm5
                               have HG5 := Lib.hid hg5
                               have HFBB5 := Lib.hid hfbb5
                               have HTB5 := Lib.hid htb5
                               clear hm5 hg5 hmap hne5 hgb5 hfb5' hfbb5 htb5' htb5)
                            | (at_builtin; refine wpList_append_lies _ rfl _ _ 149 rfl w.heap.size 148 j0 (.agg #[.string ⟨#[]⟩, .slice none 0 0, .bool false]) 3 48 Tryz.underlying149 hj hz0 hz1 hz2 rfl (by decide) _ _ _ rfl hown5 ⟨w5.heap.size, 0, none⟩ 1 1 [.string S, .slice (some ⟨tb2, 0, none⟩) n n, .bool zz] rfl rfl (cells_new _ _ _) (by intro u hu; simp at hu; rcases hu with rfl | rfl | rfl <;> rfl) (by decide) (by unfold maxLen; omega) (by omega) (by simp; omega) _ rfl ?_; intro g9 cap9 w9 ho9 hg9 hl9 _))
                          go_roundw
                          case rel =>
                            have e9 : stC l.length (d ++ [c], S, tb2) = [.string S, .slice (some ⟨tb2, 0, none⟩) n n, .bool zz] := by
                              rw [HN.out, HZZ.out]
                              rfl
                            rw [← e9] at ho9
                            have hba : Below w5.heap.size w5 (w5.alloc (.cells #[.string S, .slice (some ⟨tb2, 0, none⟩) n n, .bool zz] 148)) := (Below.refl _ _).alloc (Nat.le_refl _) _
                            have hm9 : MapB w5 W0 ((nes2.map fun e => keyD l e.1) ++ [keyD l (d ++ [c])]) := by
                              rw [← HKL.out]
                              exact HM5.out
                            have hf5 := (hba.block fbb (Array.getElem?_eq_some_iff.1 HFBB5.out).1).trans HFBB5.out
                            have hlt5 : fbb < w5.heap.size := (Array.getElem?_eq_some_iff.1 HFBB5.out).1
                            refine ⟨c + 1, nes2 ++ [(d ++ [c], S, tb2)], by omega, by go_num, HFRQ.out.more (e := (d ++ [c], S, tb2)) hm9 HG5.out hba ⟨HDIG.out.1, HDIG.out.2, HSS2.out, HTB5.out.below hba⟩ ho9 hg9 hl9, (hg9.block fbb (Array.getElem?_eq_some_iff.1 hf5).1 (fun e => HNF5.out e.symm)).trans hf5, fun e => ?_, by have := HNL5.out; simp; omega, ?_, fun x hx => ?_⟩
                            · have e' : g9 = fbb := by injection e
                              rcases hl9 with h | h
                              · exact HNF5.out ((show u4.ownBlock = some g9 from h).trans (by rw [e']))
                              · have h2 := hba.size
                                omega
                            · obtain ⟨x, hx⟩ := HNE5.out
                              exact ⟨x ++ [(d ++ [c], S, tb2)], by rw [hx, List.append_assoc]⟩
                            · by_cases hxc : x < c
                              · obtain ⟨e', he', hs'⟩ := HCO5.out x hxc
                                exact ⟨e', List.mem_append_left _ he', hs'⟩
                              · have : x = c := by omega
                                subst this
                                exact ⟨(d ++ [x], S, tb2), by simp, rfl, rfl⟩
                          case measure => simp [intOf] <;> omega
                · have cc1 : ¬ (c : Int) < 10 := by omega
                  have hc : c = 10 := by omega
                  subst hc
                  go_wp2
                  go_roundw
                  case rel =>
                    have htk : es.take (i + 1) = es.take i ++ [(d, s, tb)] := by rw [List.take_add_one, HHE.out]; rfl
                    obtain ⟨x2, hx2⟩ := HK2.out
                    obtain ⟨x3, hx3⟩ := HNE5.out
                    obtain ⟨x1, hx1⟩ := HMID.out.ext
                    have hk3 := HK3.out
                    have hk5 := HK5.out
                    refine ⟨i + 1, nes2, kv, fs3, by omega, by go_num, HFR5.out, ⟨by have := HMID.out.nlen; have := HNL5.out; omega, ⟨x1 ++ x2, by rw [hx2, hx1, List.append_assoc]⟩, by have := HMID.out.flen; omega, fun q hq => ?_, fun e he => ?_, fun e he x hx => ?_⟩⟩
                    · rcases HK4.out q hq with h | h
                      · exact HMID.out.fok q h
                      · subst h
                        exact ⟨by have := HEN3.out; simp only; omega, HNBL.out⟩
                    · rw [htk] at he
                      rcases List.mem_append.1 he with he | he
                      · obtain ⟨q, hq, e1⟩ := HMID.out.done e he
                        exact ⟨q, by rw [hx2]; exact List.mem_append_left _ hq, e1⟩
                      · simp only [List.mem_singleton] at he
                        subst he
                        obtain ⟨q, hq, e1⟩ := hk5
                        exact ⟨q, hq, e1.trans HNB.out⟩
                    · rw [htk] at he
                      rcases List.mem_append.1 he with he | he
                      · obtain ⟨e', he', hs'⟩ := HMID.out.next e he x hx
                        exact ⟨e', by rw [hx3]; exact List.mem_append_left _ he', hs'⟩
                      · simp only [List.mem_singleton] at he
                        subst he
                        exact HCO5.out x hx
                  case measure => simp [intOf] <;> omega
        · have i1 : ¬ (i : Int) < (m : Int) := by omega
          have hin : i = m := by omega
          subst hin
          have HFR2 := Lib.hid hfr
          have HMID2 := Lib.hid hmid
          clear hfr hmid
          go_wp2
          go_roundw
          case rel =>
            refine ⟨k + 1, nes, fv2, fs2, by omega, by go_num, HLP.out.next HFR2.out ?_⟩
            have := HMID2.out
            rw [HM.out] at this
            exact this
          case measure => simp [intOf] <;> omega
    · have k1 : ¬ (k : Int) ≤ 6 := by omega
      have HLP := Lib.hid hlp
      have hk : k = 7 := by omega
      subst hk
      clear hlp
      go_wp2
      refine bodyPost_ret (results_none rfl _ _ _) rfl ?_
      exact HLP.out.fin
end Go.Proofs.YtbkcmgjmhglghaaGreatDoor
