/-
  Rows of values in memory, cell by cell.
-/
import Derived.Test.YtbkcmgjmhglghaaGreatDoorWr0
import Derived.Test.YtbkcmgjmhglghaaGreatDoorWp2
import Derived.Lib.BufferMore
import Derived.Deep.RegionHeld3
import Derived.Deep.DrawnRows
import Derived.Deep.DeepCutAuto
import Derived.Deep.CutBlock
namespace Go.Proofs.YtbkcmgjmhglghaaGreatDoor
open Go.RowKit

theorem flat_get {α : Type} (f : α → List Value) (k : Nat) (hk : ∀ x, (f x).length = k) : ∀ (l : List α) (i j : Nat) (x : α), l[i]? = some x → j < k → (l.flatMap f)[i * k + j]? = (f x)[j]?
  | [], i, j, x, h, _ => by simp at h
  | y :: l, 0, j, x, h, hj => by
    simp at h
    subst h
    rw [List.flatMap_cons, Nat.zero_mul, Nat.zero_add, List.getElem?_append_left (by rw [hk]; exact hj)]
  | y :: l, i + 1, j, x, h, hj => by
    rw [List.flatMap_cons, List.getElem?_append_right (by rw [hk, Nat.add_mul]; omega), hk, show (i + 1) * k + j - k = i * k + j from by rw [Nat.add_mul]; omega]
    exact flat_get f k hk l i j x (by simpa using h) hj
theorem flat_len {α : Type} (f : α → List Value) (k : Nat) (hk : ∀ x, (f x).length = k) (l : List α) : (l.flatMap f).length = l.length * k := length_flatMap_const l f k fun x _ => hk x
theorem flat_inv {α : Type} (f : α → List Value) (k : Nat) (hk : ∀ x, (f x).length = k) (l : List α) (m : Nat) (u : Value) (h : (l.flatMap f)[m]? = some u) : ∃ i j x, m = i * k + j ∧ j < k ∧ l[i]? = some x ∧ (f x)[j]? = some u := by
  have hm := (List.getElem?_eq_some_iff.1 h).1
  rw [flat_len f k hk] at hm
  have hk0 : 0 < k := by
    rcases Nat.eq_zero_or_pos k with h0 | h0
    · subst h0; simp at hm
    · exact h0
  have hi : m / k < l.length := (Nat.div_lt_iff_lt_mul hk0).2 hm
  refine ⟨m / k, m % k, l[m / k], ?_, Nat.mod_lt _ hk0, List.getElem?_eq_getElem hi, ?_⟩
  · rw [Nat.mul_comm]; exact (Nat.div_add_mod m k).symm
  · rw [← flat_get f k hk l (m / k) (m % k) _ (List.getElem?_eq_getElem hi) (Nat.mod_lt _ hk0), show m / k * k + m % k = m from by rw [Nat.mul_comm]; exact Nat.div_add_mod m k]
    exact h
theorem addr_add (b o j : Nat) : (⟨b, o, none⟩ : Addr).add j = ⟨b, o + j, none⟩ := by
  unfold Addr.add
  split <;> simp_all
theorem own_cells {w : World} {base : Nat} {e : TypeId} {size n g o cap : Nat} {xs : List Value} (h : w.ownsRow base e size (.slice (some ⟨g, o, none⟩) n cap) n xs) {j : Nat} {x : Value} (hx : xs[j]? = some x) : o = 0 ∧ w.cell? ⟨g, j, none⟩ = some x ∧ w.frozen? ⟨g, j, none⟩ = false := by
  obtain ⟨hl, ⟨hv, h0⟩ | ⟨g', cap', cur, hv, hb, hg, h1, h2, h3, h4⟩⟩ := h
  · cases hv
  · cases hv
    refine ⟨rfl, ?_, Lib.frozen_of_heap hg j⟩
    rw [Lib.cell_of_heap hg]
    rw [← h4, List.getElem?_take] at hx
    split at hx
    · simpa using hx
    · cases hx
theorem own_less {w : World} {base base' : Nat} {e : TypeId} {size n : Nat} {v : Value} {xs : List Value} (h : w.ownsRow base e size v n xs) (hb : base' ≤ base) : w.ownsRow base' e size v n xs := by
  obtain ⟨hl, h | ⟨g', cap', cur, hv, hb', h⟩⟩ := h
  · exact ⟨hl, .inl h⟩
  · exact ⟨hl, .inr ⟨g', cap', cur, hv, Nat.le_trans hb hb', h⟩⟩
theorem grown_belowR {w w' : World} {base n : Nat} {e : TypeId} {size : Nat} {v : Value} {xs : List Value} (hg : w.grownBy w' v.ownBlock) (hown : w.ownsRow base e size v n xs) (hb : base ≤ w.heap.size) : Below base w w' := by
  refine ⟨hg.os, hg.tape, hg.output, hg.size, fun k hk => hg.block k (by omega) ?_⟩
  obtain ⟨hl, ⟨rfl, _⟩ | ⟨g', cap', cur, rfl, hb', h⟩⟩ := hown
  · simp [Value.ownBlock]
  · simp [Value.ownBlock]
    omega
/-- A slice of the call's own stays while other blocks are written or made. -/
theorem own_grow {w w' : World} {base n : Nat} {e : TypeId} {size : Nat} {v : Value} {xs : List Value} {row : Option Nat} (hown : w.ownsRow base e size v n xs) (hg : w.grownBy w' row) (hne : v.ownBlock = none ∨ v.ownBlock ≠ row) : w'.ownsRow base e size v n xs := by
  obtain ⟨hl, ⟨rfl, h0⟩ | ⟨g', cap', cur, rfl, hb', hh, h⟩⟩ := hown
  · exact ⟨hl, .inl ⟨rfl, h0⟩⟩
  · refine ⟨hl, .inr ⟨g', cap', cur, rfl, hb', ?_, h⟩⟩
    rw [hg.block g' (Array.getElem?_eq_some_iff.1 hh).1 ?_]
    · exact hh
    · rcases hne with h | h
      · simp [Value.ownBlock] at h
      · exact h
/-- .. and while nothing below the heap's end is written. -/
theorem own_belowR {w w' : World} {base n : Nat} {e : TypeId} {size : Nat} {v : Value} {xs : List Value} (hown : w.ownsRow base e size v n xs) (hb : Below w.heap.size w w') : w'.ownsRow base e size v n xs := by
  obtain ⟨hl, ⟨rfl, h0⟩ | ⟨g', cap', cur, rfl, hb', hh, h⟩⟩ := hown
  · exact ⟨hl, .inl ⟨rfl, h0⟩⟩
  · refine ⟨hl, .inr ⟨g', cap', cur, rfl, hb', ?_, h⟩⟩
    rw [hb.block g' (Array.getElem?_eq_some_iff.1 hh).1]
    exact hh

/-! ### Relations -/
abbrev RelV := Rel × Value
def relC (p : RelV) : List Value := [.int .i64 p.1.op, .int .i64 p.1.md, .bool p.1.nt, p.2]
theorem relC_len (p : RelV) : (relC p).length = 4 := rfl
def relsC (ps : List RelV) : List Value := ps.flatMap relC
/-- The spans of all relations lie below B. -/
def SpansAt (w : World) (B : Nat) (ps : List RelV) : Prop := ∀ p ∈ ps, IsSpans w B p.2 p.1.sp
theorem SpansAt.below {w w' : World} {B : Nat} {ps : List RelV} (h : SpansAt w B ps) (hb : Below B w w') : SpansAt w' B ps := fun p hp => (h p hp).below hb
theorem IsSpans.slice {w : World} {B : Nat} {v : Value} {l : List Sp} (h : IsSpans w B v l) : v.oneCell' = true := by
  obtain ⟨ao, cap, rfl, _⟩ := h
  rfl
theorem rels_rows {w : World} {B : Nat} {v : Value} {l : List Rel} (h : IsRels w B v l) : ∃ ps : List RelV, ps.map (·.1) = l ∧ SpansAt w B ps ∧
    ∃ ao cap, v = .slice ao l.length cap ∧ (0 < l.length → ∃ b o, ao = some ⟨b, o, none⟩ ∧ b < B ∧ ∀ j u, (relsC ps)[j]? = some u → w.cell? ⟨b, o + j, none⟩ = some u) := by
  obtain ⟨ao, cap, rfl, h⟩ := h
  by_cases h0 : 0 < l.length
  · obtain ⟨b, o, rfl, hb, hc⟩ := h h0
    have : ∀ (m : List Rel) (i0 : Nat), (∀ i x, m[i]? = some x → ∃ sv, w.cell? ⟨b, o + (i0 + i) * 4 + 3, none⟩ = some sv ∧ IsSpans w B sv x.sp) → ∃ ps : List RelV, ps.map (·.1) = m ∧ SpansAt w B ps ∧ ∀ i p, ps[i]? = some p → w.cell? ⟨b, o + (i0 + i) * 4 + 3, none⟩ = some p.2 := by
      intro m
      induction m with
      | nil => exact fun _ _ => ⟨[], rfl, fun _ h => by simp at h, fun _ _ h => by simp at h⟩
      | cons x m ih =>
        intro i0 hm
        obtain ⟨sv, h1, h2⟩ := hm 0 x rfl
        obtain ⟨ps, e, hs, hc⟩ := ih (i0 + 1) fun i y hy => by
          have := hm (i + 1) y (by simpa using hy)
          rwa [show i0 + 1 + i = i0 + (i + 1) from by omega]
        refine ⟨(x, sv) :: ps, by simp [e], fun p hp => ?_, fun i p hp => ?_⟩
        · rcases List.mem_cons.1 hp with rfl | hp
          · exact h2
          · exact hs p hp
        · cases i with
          | zero => simp at hp; subst hp; exact h1
          | succ i =>
            have := hc i p (by simpa using hp)
            rwa [show i0 + 1 + i = i0 + (i + 1) from by omega] at this
    obtain ⟨ps, e, hs, hcs⟩ := this l 0 fun i x hx => by
      obtain ⟨_, _, _, h⟩ := hc i x hx
      rw [Nat.zero_add]
      exact h
    refine ⟨ps, e, hs, _, cap, rfl, fun _ => ⟨b, o, rfl, hb, fun j u hu => ?_⟩⟩
    obtain ⟨i, k, p, rfl, hk, hp, hu⟩ := flat_inv relC 4 relC_len ps j u hu
    have hx : l[i]? = some p.1 := by rw [← e, List.getElem?_map, hp]; rfl
    obtain ⟨c0, c1, c2, _⟩ := hc i p.1 hx
    have c3 := hcs i p hp
    rw [Nat.zero_add] at c3
    match k, hk with
    | 0, _ => simp [relC] at hu; rw [← hu]; exact c0
    | 1, _ => simp [relC] at hu; rw [← hu, ← Nat.add_assoc]; exact c1
    | 2, _ => simp [relC] at hu; rw [← hu, ← Nat.add_assoc]; exact c2
    | 3, _ => simp [relC] at hu; rw [← hu, ← Nat.add_assoc]; exact c3
  · have : l = [] := List.eq_nil_of_length_eq_zero (by omega)
    subst this
    exact ⟨[], rfl, fun _ h => by simp at h, ao, cap, rfl, fun h => absurd h (by simp)⟩
theorem relsC_app (a b : List RelV) : relsC (a ++ b) = relsC a ++ relsC b := by simp [relsC]
theorem own_rels {w : World} {base B : Nat} {e : TypeId} {v : Value} {n : Nat} {ps : List RelV} (h : w.ownsRow base e 4 v n (relsC ps)) (hs : SpansAt w B ps) (hB : B ≤ w.heap.size) : IsRels w w.heap.size v (ps.map (·.1)) ∧ n = ps.length := by
  have hn : n = ps.length := by
    have h1 := h.1
    unfold relsC at h1
    rw [flat_len relC 4 relC_len] at h1
    omega
  refine ⟨?_, hn⟩
  subst hn
  have h' := h
  obtain ⟨hl, ⟨rfl, h0⟩ | ⟨g, cap, cur, rfl, hb, hg, _⟩⟩ := h'
  · refine ⟨none, 0, by rw [List.length_map, h0], fun hp => ?_⟩
    rw [List.length_map] at hp
    omega
  · refine ⟨_, cap, by rw [List.length_map], fun _ => ⟨g, 0, rfl, (Array.getElem?_eq_some_iff.1 hg).1, fun i x hx => ?_⟩⟩
    rw [List.getElem?_map] at hx
    obtain ⟨p, hp, rfl⟩ := Option.map_eq_some_iff.1 hx
    have c := fun k (hk : k < 4) u (hu : (relC p)[k]? = some u) => (own_cells h (j := i * 4 + k) (x := u) (by rw [← hu]; exact flat_get relC 4 relC_len ps i k p hp hk)).2.1
    refine ⟨?_, ?_, ?_, p.2, ?_, ?_⟩
    · rw [Nat.zero_add]; exact c 0 (by omega) _ rfl
    · rw [Nat.zero_add]; exact c 1 (by omega) _ rfl
    · rw [Nat.zero_add]; exact c 2 (by omega) _ rfl
    · rw [Nat.zero_add]; exact c 3 (by omega) _ rfl
    · exact (hs p (List.mem_of_getElem? hp)).imp hB fun _ _ _ h => h
end Go.Proofs.YtbkcmgjmhglghaaGreatDoor
