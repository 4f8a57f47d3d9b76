/-
  decide.valid, and what Total and Disjoint ask.
-/
import Derived.Test.YtbkcmgjmhglghaaGreatDoorWh8
namespace Go.Proofs.YtbkcmgjmhglghaaGreatDoor
open Go.RowKit

theorem condsAt {w : World} {B : Nat} {v : Value} {cs : List Cnd} (h : IsConds w B v cs) : ∃ (ao : Option Addr) (cap : Nat) (cvs : Nat → Value), v = .slice ao cs.length cap ∧ (∀ i c, cs[i]? = some c → IsCond w B (cvs i) c) ∧ (0 < cs.length → ∃ b o, ao = some ⟨b, o, none⟩ ∧ b < B ∧ ∀ i, i < cs.length → w.cell? ⟨b, o + i, none⟩ = some (cvs i)) := by
  obtain ⟨ao, cap, rfl, hc⟩ := h
  by_cases h0 : 0 < cs.length
  · obtain ⟨b, o, rfl, hb, hh⟩ := hc h0
    have key : ∀ i, ∃ u, ∀ c, cs[i]? = some c → w.cell? ⟨b, o + i, none⟩ = some u ∧ IsCond w B u c := fun i => by
      rcases hc' : cs[i]? with _ | c
      · exact ⟨.bool false, fun c h => by cases h⟩
      · obtain ⟨u, h1, h2⟩ := hh i c hc'
        exact ⟨u, fun c' h => by cases h; exact ⟨h1, h2⟩⟩
    refine ⟨_, cap, fun i => Classical.choose (key i), rfl, fun i c hi => (Classical.choose_spec (key i) c hi).2, fun _ => ⟨b, o, rfl, hb, fun i hi => (Classical.choose_spec (key i) _ (List.getElem?_eq_getElem hi)).1⟩⟩
  · refine ⟨ao, cap, fun _ => .bool false, rfl, fun i c hi => ?_, fun h => absurd h h0⟩
    have := (List.getElem?_eq_some_iff.1 hi).1
    omega
set_option maxRecDepth 100000 in
set_option maxHeartbeats 1600000 in
theorem dvalid_any (v : Value) (cs : List Cnd) (B : Nat) (w : World) (hv : IsConds w B v cs) (hB : B ≤ w.heap.size) (hc : ∀ c ∈ cs, condB c = true) (h10 : cs.length ≤ 10) :
    Calls Tryz.prog 22 #[v] w fun e w' => e = .returned (.bool true) ∧ Below w.heap.size w w' := by
  obtain ⟨ao, cap, cvs, rfl, hcv, hq⟩ := condsAt hv
  obtain ⟨n, hn⟩ : ∃ n, n = cs.length := ⟨_, rfl⟩
  rw [← hn] at hq h10
  rw [← hn]
  have i10 : (n : Int) ≤ 10 := by omega
  have HCV := Lib.hid hcv
  have HQ := Lib.hid hq
  have HN := Lib.hid hn
  have HC := Lib.hid hc
  have HB := Lib.hid hB
  clear hv hcv hq hn hc hB
  go_enter Tryz.func22, Tryz.ntmps22
  go_wp2
  go_loopw [7] (fun iv wr => ∃ i : Nat, i ≤ n ∧ iv = .int .i64 i ∧ Below w.heap.size w wr) (fun iv _ => n - (intOf iv).toNat)
  case atStart => exact ⟨0, Nat.zero_le _, rfl, Below.refl _ _⟩
  case round =>
    obtain ⟨i, hi, rfl, hb⟩ := hrel
    have i0 : (0 : Int) ≤ (i : Int) := by omega
    have HBW := Lib.hid hb
    by_cases hlt : i < n
    · have i1 : (i : Int) < (n : Int) := by omega
      obtain ⟨c, hcc⟩ : ∃ c, cs[i]? = some c := ⟨_, List.getElem?_eq_getElem (by have := HN.out; omega)⟩
      obtain ⟨b, o, rfl, hbB, hqq⟩ := HQ.out (by omega)
      have a0 := (hb.cell (p := ⟨b, o + i, none⟩) (by show b < w.heap.size; have := HB.out; omega)).trans (hqq i hlt)
      have hval := cvalid_any (cvs i) c B wr ((HCV.out i c hcc).below (hb.mono HB.out)) (Nat.le_trans HB.out hb.size) (HC.out c (List.mem_of_getElem? hcc))
      have HVAL := Lib.hid hval
      obtain ⟨u, hu⟩ : ∃ u, u = cvs i := ⟨_, rfl⟩
      rw [← hu] at a0 HVAL
      clear hcc hqq hval hb hu
      go_wp2_with (go_at_call 41; refine (HVAL.out).mono ?_; rintro e w8 ⟨rfl, hb8⟩; have HB8 := Lib.hid (HBW.out.trans (hb8.mono HBW.out.size)); clear hb8)
      go_roundw
      case rel => exact ⟨i + 1, by omega, by go_num, HB8.out⟩
      case measure => simp [intOf] <;> omega
    · have i1 : ¬ (i : Int) < (n : Int) := by omega
      clear hb
      go_wp2
      go_ret
      exact ⟨rfl, HBW.out⟩
/-- Bools in a block. -/
def BoolAt (W : World) (g : Nat) (bs : List Bool) : Prop := W.heap[g]? = some (.cells (bs.map Value.bool).toArray 4 (0, 0))
theorem BoolAt.cell {W : World} {g : Nat} {bs : List Bool} (h : BoolAt W g bs) {i : Nat} (hi : i < bs.length) : W.cell? ⟨g, i, none⟩ = some (.bool (bs.getD i false)) := by
  rw [Lib.cell_of_heap h]
  simp [List.getD, hi]
/-- What a test of Bools tells. -/
def AskF (g : Nat) (F : List Bool → Bool) (n : Nat) (w : World) : Prop := ∀ (W : World) (k : Nat) (bs : List Bool), Below w.heap.size w W → BoolAt W k bs → bs.length = n → Calls Tryz.prog g #[.slice (some ⟨k, 0, none⟩) n n] W fun e w' => e = .returned (.bool (F bs)) ∧ Below W.heap.size W w'
set_option maxRecDepth 100000 in
theorem total1_any (n : Nat) (h10 : n ≤ 10) (w : World) : AskF 38 (fun bs => bs.all fun b => !b) n w := by
  intro W k bs _ hbs hn
  have HN := Lib.hid hn
  have HBS := Lib.hid hbs
  clear hn hbs
  go_enter Tryz.func38, Tryz.ntmps38
  go_wp2
  go_loopw [7] (fun iv wr => ∃ i : Nat, i ≤ n ∧ iv = .int .i64 i ∧ Below W.heap.size W wr ∧ (bs.take i).all (fun b => !b) = true) (fun iv _ => n - (intOf iv).toNat)
  case atStart => exact ⟨0, Nat.zero_le _, rfl, Below.refl _ _, by simp⟩
  case round =>
    obtain ⟨i, hi, rfl, hbW, hall⟩ := hrel
    have HBW := Lib.hid hbW
    have i0 : (0 : Int) ≤ (i : Int) := by omega
    by_cases hlt : i < n
    · have i1 : (i : Int) < (n : Int) := by omega
      have hil : i < bs.length := by have := HN.out; omega
      have c0 := (hbW.cell (p := ⟨k, i, none⟩) (World.block_lt_of_cell? W _ (HBS.out.cell hil))).trans (HBS.out.cell hil)
      have htk : bs.take (i + 1) = bs.take i ++ [bs.getD i false] := by
        rw [List.take_add_one, List.getElem?_eq_getElem hil]
        simp [List.getD, hil]
      have hmem : bs.getD i false ∈ bs := by
        rw [List.getD_eq_getElem?_getD, List.getElem?_eq_getElem hil]
        exact List.getElem_mem hil
      obtain ⟨bi, hbi⟩ : ∃ bi, bi = bs.getD i false := ⟨_, rfl⟩
      rw [← hbi] at c0 htk hmem
      have HTK := Lib.hid htk
      have HMEM := Lib.hid hmem
      have HALL := Lib.hid hall
      clear hbi htk hmem hall hil hbW
      cases bi
      · go_wp2
        go_roundw
        case rel => exact ⟨i + 1, by omega, by go_num, HBW.out, by rw [HTK.out, List.all_append, HALL.out]; rfl⟩
        case measure => simp [intOf] <;> omega
      · go_wp2
        go_ret
        refine ⟨?_, HBW.out⟩
        have : (bs.all fun b => !b) = false := by
          rw [Bool.eq_false_iff]
          intro h
          have := List.all_eq_true.1 h _ HMEM.out
          simp at this
        rw [this]
        rfl
    · have i1 : ¬ (i : Int) < (n : Int) := by omega
      have HALL := Lib.hid hall
      clear hall hbW
      go_wp2
      go_ret
      refine ⟨?_, HBW.out⟩
      have h1 := HALL.out
      rw [List.take_of_length_le (by have := HN.out; omega)] at h1
      rw [h1]
      rfl
set_option maxRecDepth 100000 in
theorem disjoint1_any (w : World) : AskF 24 (fun bs => bs.getD 0 false && bs.getD 1 false) 2 w := by
  intro W k bs _ hbs hn
  have c0 := hbs.cell (i := 0) (by omega)
  have c1 := hbs.cell (i := 1) (by omega)
  obtain ⟨x, hx⟩ : ∃ x, x = bs.getD 0 false := ⟨_, rfl⟩
  obtain ⟨y, hy⟩ : ∃ y, y = bs.getD 1 false := ⟨_, rfl⟩
  rw [← hx] at c0
  rw [← hy] at c1
  have HX := Lib.hid hx
  have HY := Lib.hid hy
  clear hx hy hbs hn
  go_enter Tryz.func24, Tryz.ntmps24
  cases x
  all_goals
    go_wp2
    go_ret
    refine ⟨?_, Below.refl _ _⟩
    rw [← HX.out, ← HY.out]
    simp
end Go.Proofs.YtbkcmgjmhglghaaGreatDoor
