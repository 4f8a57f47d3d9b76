/-
  decide.merged's closures.
-/
import Derived.Test.YtbkcmgjmhglghaaGreatDoorWx1
namespace Go.Proofs.YtbkcmgjmhglghaaGreatDoor
open Go.RowKit

/-- A row of numbers in a block. -/
def IntRow (W : World) (g : Nat) (L : List Nat) : Prop := W.heap[g]? = some (.cells (L.map fun (n : Nat) => Value.int .i64 n).toArray 3 (0, 0))
theorem IntRow.cell {W : World} {g : Nat} {L : List Nat} (h : IntRow W g L) {i : Nat} (hi : i < L.length) : W.cell? ⟨g, i, none⟩ = some (.int .i64 ((L.getD i 0 : Nat) : Int)) := by
  rw [Lib.cell_of_heap h]
  simp [List.getD, hi]
theorem IntRow.frozen {W : World} {g : Nat} {L : List Nat} (h : IntRow W g L) (i : Nat) : W.frozen? ⟨g, i, none⟩ = false := Lib.frozen_of_heap h i
theorem IntRow.set {W : World} {g : Nat} {L : List Nat} (h : IntRow W g L) (i x : Nat) : IntRow (W.setCell ⟨g, i, none⟩ (.int .i64 (x : Int))) g (L.set i x) := by
  unfold IntRow
  rw [Lib.heap_setCell_same (i := i) h, List.map_set]
  simp
theorem IntRow.lt {W : World} {g : Nat} {L : List Nat} (h : IntRow W g L) : g < W.heap.size := (Array.getElem?_eq_some_iff.1 h).1
theorem IntRow.below {W W' : World} {g : Nat} {L : List Nat} (h : IntRow W g L) (hb : Below W.heap.size W W') : IntRow W' g L := (hb.block g h.lt).trans h
set_option maxRecDepth 100000 in
set_option maxHeartbeats 1600000 in
theorem merged1_any (x c n k ck fk gc gb gf B : Nat) (nv : Value) (next : List (List Nat)) (cl fi : List Nat) (w : World) (hc : w.cell? ⟨gc, 0, none⟩ = some (.slice (some ⟨ck, 0, none⟩) n n)) (hb : w.cell? ⟨gb, 0, none⟩ = some nv) (hf : w.cell? ⟨gf, 0, none⟩ = some (.slice (some ⟨fk, 0, none⟩) k k))
    (hnv : IsNext w B nv next) (hcl : IntRow w ck cl) (hfi : IntRow w fk fi) (hln : cl.length = n) (hnn : next.length = n) (hlk : fi.length = k) (hx : x < k) (hc11 : c < 11) (hfx : fi.getD x 0 < n) (hnx : nx next (fi.getD x 0) c < n) :
    Calls Tryz.prog 58 #[.int .i64 x, .int .i64 c, .pointer (some ⟨gc, 0, none⟩), .pointer (some ⟨gb, 0, none⟩), .pointer (some ⟨gf, 0, none⟩)] w fun e w' => e = .returned (.int .i64 ((cl.getD (nx next (fi.getD x 0) c) 0 : Nat) : Int)) ∧ Below w.heap.size w w' := by
  obtain ⟨ao, cap, rfl, hnc⟩ := hnv
  obtain ⟨b, o, rfl, hbB, hcells⟩ := hnc (by omega)
  rw [hnn] at hb
  have c1 := hfi.cell (i := x) (by omega)
  obtain ⟨y, hy⟩ : ∃ y, y = fi.getD x 0 := ⟨_, rfl⟩
  rw [← hy] at c1 hfx hnx ⊢
  have c2 := hcells y _ (List.getElem?_eq_getElem (by omega)) c hc11
  have e2 : (next[y]'(by omega)).getD c 0 = nx next y c := by
    unfold nx
    rw [List.getD_eq_getElem?_getD (l := next), List.getElem?_eq_getElem (by omega)]
    rfl
  rw [e2] at c2
  obtain ⟨z, hz⟩ : ∃ z, z = nx next y c := ⟨_, rfl⟩
  rw [← hz] at c2 hnx ⊢
  have c3 := hcl.cell (i := z) (by omega)
  obtain ⟨r, hr⟩ : ∃ r, r = cl.getD z 0 := ⟨_, rfl⟩
  rw [← hr] at c3 ⊢
  have x0 : (0 : Int) ≤ (x : Int) := by omega
  have x1 : (x : Int) < (k : Int) := by omega
  have y0 : (0 : Int) ≤ (y : Int) := by omega
  have y1 : (y : Int) < (n : Int) := by omega
  have k0 : (0 : Int) ≤ (c : Int) := by omega
  have k1 : (c : Int) < 11 := by omega
  have z0 : (0 : Int) ≤ (z : Int) := by omega
  have z1 : (z : Int) < (n : Int) := by omega
  clear hnc hcells hcl hfi hln hnn hlk hx hc11 hfx hnx hy e2 hz hr hbB
  go_enter Tryz.func58, Tryz.ntmps58
  go_upto_region 1 with fail
  go_region_held3 (fun W => W.cell? ⟨gc, 0, none⟩ = some (.slice (some ⟨ck, 0, none⟩) n n) ∧ W.cell? ⟨gb, 0, none⟩ = some (.slice (some ⟨b, o, none⟩) n cap) ∧ W.cell? ⟨gf, 0, none⟩ = some (.slice (some ⟨fk, 0, none⟩) k k) ∧ W.cell? ⟨fk, x, none⟩ = some (.int .i64 (y : Int)) ∧ W.cell? ⟨b, o + y * 11 + c, none⟩ = some (.int .i64 (z : Int)) ∧ W.cell? ⟨ck, z, none⟩ = some (.int .i64 (r : Int)) ∧ Below w.heap.size w W)
    (first | assumption | exact ⟨hc, hb, hf, c1, c2, c3, Below.refl _ _⟩ | exact ⟨hc, hb, hf, c1, c2, c3, (Below.refl _ _).drew⟩) (fail)
  go_wp2
  go_ret
  first | exact ⟨rfl, Below.refl _ _⟩ | exact ⟨rfl, (Below.refl _ _).drew⟩ | exact ⟨rfl, by assumption⟩
set_option maxRecDepth 100000 in
set_option maxHeartbeats 1600000 in
theorem merged2_any (x n k fk gb gf B : Nat) (av : Value) (ac : List Bool) (fi : List Nat) (w : World) (hb : w.cell? ⟨gb, 1, none⟩ = some av) (hf : w.cell? ⟨gf, 0, none⟩ = some (.slice (some ⟨fk, 0, none⟩) k k))
    (hav : IsBools w B av ac) (hfi : IntRow w fk fi) (hnn : ac.length = n) (hlk : fi.length = k) (hx : x < k) (hfx : fi.getD x 0 < n) :
    Calls Tryz.prog 59 #[.int .i64 x, .pointer (some ⟨gb, 0, none⟩), .pointer (some ⟨gf, 0, none⟩)] w fun e w' => e = .returned (.bool (ac.getD (fi.getD x 0) false)) ∧ Below w.heap.size w w' := by
  obtain ⟨ao, cap, rfl, hnc⟩ := hav
  obtain ⟨b, o, rfl, hbB, hcells⟩ := hnc (by omega)
  rw [hnn] at hb
  have c1 := hfi.cell (i := x) (by omega)
  obtain ⟨y, hy⟩ : ∃ y, y = fi.getD x 0 := ⟨_, rfl⟩
  rw [← hy] at c1 hfx ⊢
  have c2 := hcells y _ (List.getElem?_eq_getElem (by omega))
  have e2 : ac.getD y false = ac[y]'(by omega) := by
    rw [List.getD_eq_getElem?_getD, List.getElem?_eq_getElem (by omega)]
    rfl
  rw [← e2] at c2
  obtain ⟨r, hr⟩ : ∃ r, r = ac.getD y false := ⟨_, rfl⟩
  rw [← hr] at c2 ⊢
  have x0 : (0 : Int) ≤ (x : Int) := by omega
  have x1 : (x : Int) < (k : Int) := by omega
  have y0 : (0 : Int) ≤ (y : Int) := by omega
  have y1 : (y : Int) < (n : Int) := by omega
  clear hnc hcells hfi hnn hlk hx hfx hy e2 hr hbB
  go_enter Tryz.func59, Tryz.ntmps59
  go_upto_region 1 with fail
  go_region_held3 (fun W => W.cell? ⟨gb, 1, none⟩ = some (.slice (some ⟨b, o, none⟩) n cap) ∧ W.cell? ⟨gf, 0, none⟩ = some (.slice (some ⟨fk, 0, none⟩) k k) ∧ W.cell? ⟨fk, x, none⟩ = some (.int .i64 (y : Int)) ∧ W.cell? ⟨b, o + y, none⟩ = some (.bool r) ∧ Below w.heap.size w W)
    (first | assumption | exact ⟨hb, hf, c1, c2, Below.refl _ _⟩ | exact ⟨hb, hf, c1, c2, (Below.refl _ _).drew⟩) (fail)
  go_wp2
  go_ret
  first | exact ⟨rfl, Below.refl _ _⟩ | exact ⟨rfl, (Below.refl _ _).drew⟩ | exact ⟨rfl, by assumption⟩
end Go.Proofs.YtbkcmgjmhglghaaGreatDoor
