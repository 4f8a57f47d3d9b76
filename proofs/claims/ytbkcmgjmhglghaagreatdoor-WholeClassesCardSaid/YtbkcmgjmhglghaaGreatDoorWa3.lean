/-
  decide's tracker: holds.
-/
import Derived.Test.YtbkcmgjmhglghaaGreatDoorWa1
import Derived.Lib.BufferMore
import Derived.Deep.RegionHeld3
import Derived.Deep.DrawnRows
import Derived.Deep.DeepCutAuto
import Derived.Deep.CutBlock
namespace Go.Proofs.YtbkcmgjmhglghaaGreatDoor
open Go.RowKit

theorem inS_drop {l : List Sp} {i : Nat} {x : Sp} (hx : l[i]? = some x) (n : Int) : inS (l.drop i) n = ((decide (x.1 ≤ n) && decide (n ≤ x.2)) || inS (l.drop (i + 1)) n) := by
  obtain ⟨hi, he⟩ := List.getElem?_eq_some_iff.1 hx
  rw [List.drop_eq_getElem_cons hi, he]
  rfl
theorem trc_cells {W : World} {g : Nat} {a b : Int} (h : W.heap[g]? = some (.cells #[.int .i64 a, .int .i64 b] 70 (0, 0))) : W.cell? ⟨g, 0, none⟩ = some (.int .i64 a) ∧ W.cell? ⟨g, 1, none⟩ = some (.int .i64 b) := by
  refine ⟨?_, ?_⟩
  all_goals
    rw [Lib.cell_of_heap h]
    rfl
theorem alloc2 (w : World) (c1 c2 : Array Value) (t1 t2 : TypeId) :
    ((w.alloc (.cells c1 t1)).alloc (.cells c2 t2)).heap[w.heap.size]? = some (.cells c1 t1 (0, 0)) ∧
    ((w.alloc (.cells c1 t1)).alloc (.cells c2 t2)).heap[w.heap.size + 1]? = some (.cells c2 t2 (0, 0)) ∧
    Below w.heap.size w ((w.alloc (.cells c1 t1)).alloc (.cells c2 t2)) ∧ ((w.alloc (.cells c1 t1)).alloc (.cells c2 t2)).heap.size = w.heap.size + 2 := by
  have s1 : (w.alloc (.cells c1 t1)).heap.size = w.heap.size + 1 := by simp
  have b1 := (Below.refl (w.alloc (.cells c1 t1)).heap.size (w.alloc (.cells c1 t1))).alloc (Nat.le_refl _) (.cells c2 t2)
  have b0 := (Below.refl w.heap.size w).alloc (Nat.le_refl _) (.cells c1 t1)
  have h1 := heap_alloc_new w (.cells c1 t1)
  have h2 := heap_alloc_new (w.alloc (.cells c1 t1)) (.cells c2 t2)
  rw [s1] at h2
  refine ⟨?_, h2, b0.trans (b1.mono (by omega)), by simp⟩
  rw [b1.block _ (by omega)]; exact h1
set_option maxRecDepth 100000 in
set_option maxHeartbeats 1600000 in
theorem trHolds_any (op md : Int) (nt : Bool) (sv : Value) (sp : List Sp) (a b : Int) (B : Nat) (w : World) (hv : IsSpans w B sv sp) (hB : B ≤ w.heap.size) (hr : relB ⟨op, md, nt, sp⟩ = true) :
    Calls Tryz.prog 33 #[.agg #[.int .i64 a, .int .i64 b], .agg #[.int .i64 op, .int .i64 md, .bool nt, sv]] w fun e w' =>
      e = .returned (.bool (trHolds ⟨op, md, nt, sp⟩ (a, b))) ∧ Below w.heap.size w w' := by
  have h4 := (relB_sp hr).2
  simp only at h4
  obtain ⟨ao, cap, rfl, hc⟩ := hv
  obtain ⟨n, hn⟩ : ∃ n, n = sp.length := ⟨_, rfl⟩
  rw [← hn] at hc h4
  rw [← hn]
  generalize hT : trHolds ⟨op, md, nt, sp⟩ (a, b) = T
  unfold trHolds at hT
  simp only at hT
  have HT := Lib.hid hT
  clear hT
  have HC := Lib.hid hc
  have HN := Lib.hid hn
  clear hc hn hr
  obtain ⟨p0, p1, pb, ps⟩ := alloc2 w #[.int .i64 a, .int .i64 b] #[.int .i64 op, .int .i64 md, .bool nt, .slice ao n cap] 70 51
  go_enter Tryz.func33, Tryz.ntmps33
  go_upto_region 1 with fail
  obtain ⟨w1, hw1⟩ : ∃ w1, w1 = ((w.alloc (.cells #[.int .i64 a, .int .i64 b] 70)).alloc (.cells #[.int .i64 op, .int .i64 md, .bool nt, .slice ao n cap] 51)) := ⟨_, rfl⟩
  rw [← hw1] at p0 p1 pb ps
  rw [← hw1]
  clear hw1
  obtain ⟨c0, c1⟩ := trc_cells p0
  obtain ⟨r0, r1, r2, r3⟩ := rel_cells p1
  have P0 := Lib.hid p0
  have P1 := Lib.hid p1
  have PB := Lib.hid pb
  have PS := Lib.hid ps
  clear p0 p1 pb ps
  by_cases hq : op = 1 ∧ b = 1
  · obtain ⟨rfl, rfl⟩ := hq
    go_wp2
    go_ret
    exact ⟨ret_bool (by rw [← HT.out]; simp), PB.out⟩
  · have hT := HT.out
    rw [if_neg hq] at hT
    clear HT
    have HT := Lib.hid hT
    clear hT
    obtain ⟨q, hq'⟩ : ∃ q : Bool, q = (op == 1 && b == 1) := ⟨_, rfl⟩
    have main : ∀ (K : Prop), K → K := fun _ h => h
    have hsplit : (op == 1) = false ∨ ((op == 1) = true ∧ (b == 1) = false) := by
      by_cases h1 : op = 1
      · right
        exact ⟨by simp [h1], by simp; intro h; exact hq ⟨h1, h⟩⟩
      · left
        simp [h1]
    clear hq hq' main q
    rcases hsplit with e1 | ⟨e1, e2⟩
    all_goals
      go_wp2
      go_loopw [20] (fun iv wr => ∃ i : Nat, i ≤ n ∧ iv = .int .i64 i ∧ inS sp a = inS (sp.drop i) a ∧ Below w1.heap.size w1 wr) (fun iv _ => n - (intOf iv).toNat)
      case atStart => exact ⟨0, Nat.zero_le _, rfl, by rw [List.drop_zero], Below.refl _ _⟩
      case round =>
        obtain ⟨i, hi, rfl, hg, hb⟩ := hrel
        have HBW := Lib.hid hb
        have i0 : (0 : Int) ≤ (i : Int) := by omega
        obtain ⟨c0, c1⟩ := trc_cells ((hb.block w.heap.size (by have := PS.out; omega)).trans P0.out)
        obtain ⟨r0, r1, r2, r3⟩ := rel_cells ((hb.block (w.heap.size + 1) (by have := PS.out; omega)).trans P1.out)
        by_cases hlt : i < n
        · have i1 : (i : Int) < (n : Int) := by omega
          have hil : i < sp.length := by have := HN.out; omega
          obtain ⟨x, hx'⟩ : ∃ x, sp[i]? = some x := ⟨_, List.getElem?_eq_getElem hil⟩
          rw [inS_drop hx'] at hg
          obtain ⟨b, o, rfl, hbB, hcl⟩ := HC.out (by omega)
          obtain ⟨d0, d1⟩ := hcl i x hx'
          have hbw := PB.out.trans (hb.mono PB.out.size)
          have e0 := (hbw.cell (p := ⟨b, o + i * 2, none⟩) (by show b < w.heap.size; omega)).trans d0
          have e1 := (hbw.cell (p := ⟨b, o + i * 2 + 1, none⟩) (by show b < w.heap.size; omega)).trans d1
          obtain ⟨x1, x2⟩ := x
          have HG := Lib.hid hg
          have c0a := (((Below.refl wr.heap.size wr).alloc (Nat.le_refl _) (.cells #[.int .i64 x1, .int .i64 x2] 48)).cell (p := ⟨w.heap.size, 0, none⟩) (World.block_lt_of_cell? wr _ c0)).trans c0
          have r2a := (((Below.refl wr.heap.size wr).alloc (Nat.le_refl _) (.cells #[.int .i64 x1, .int .i64 x2] 48)).cell (p := ⟨w.heap.size + 1, 2, none⟩) (World.block_lt_of_cell? wr _ r2)).trans r2
          clear hcl d0 d1 hx' hb hg hbw
          by_cases k1 : x1 ≤ a
          · have k1b : decide (x1 ≤ a) = true := decide_eq_true k1
            by_cases k2 : a ≤ x2
            · have k2b : decide (a ≤ x2) = true := decide_eq_true k2
              go_wp2
              go_ret
              exact ⟨ret_bool (by rw [← HT.out, HG.out]; simp [k1, k2]), PB.out.trans ((HBW.out.alloc HBW.out.size _).mono PB.out.size)⟩
            · have k2b : decide (a ≤ x2) = false := decide_eq_false k2
              go_wp2
              go_roundw
              case rel => exact ⟨i + 1, by omega, by go_num, by rw [HG.out]; simp [k2], HBW.out.alloc HBW.out.size _⟩
              case measure => simp [intOf] <;> omega
          · have k1b : decide (x1 ≤ a) = false := decide_eq_false k1
            go_wp2
            go_roundw
            case rel => exact ⟨i + 1, by omega, by go_num, by rw [HG.out]; simp [k1], HBW.out.alloc HBW.out.size _⟩
            case measure => simp [intOf] <;> omega
        · have i1 : ¬ (i : Int) < (n : Int) := by omega
          have hd : sp.drop i = [] := List.drop_eq_nil_of_le (by have := HN.out; omega)
          rw [hd] at hg
          have HG := Lib.hid hg
          clear hg hd hb
          go_wp2
          go_ret
          exact ⟨ret_bool (by rw [← HT.out, HG.out]; cases nt <;> rfl), PB.out.trans (HBW.out.mono PB.out.size)⟩
end Go.Proofs.YtbkcmgjmhglghaaGreatDoor
