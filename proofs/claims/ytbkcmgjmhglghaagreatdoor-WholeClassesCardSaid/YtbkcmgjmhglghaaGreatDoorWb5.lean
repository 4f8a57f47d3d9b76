/-
  decide.Automaton$2: whether a state accepts.
-/
import Derived.Test.YtbkcmgjmhglghaaGreatDoorWb4
namespace Go.Proofs.YtbkcmgjmhglghaaGreatDoor
open Go.RowKit

set_option maxRecDepth 100000 in
set_option maxHeartbeats 1600000 in
theorem aut2_any (s : RS) (gc gl : Nat) (cv v : Value) (c : Cnd) (B : Nat) (w : World) (hs : RdOK s) (hgc : w.cell? ⟨gc, 0, none⟩ = some cv) (hcv : IsCond w B cv c) (hc : condB c = true) (hgl : w.cell? ⟨gl, 0, none⟩ = some v) (hv : IsRels w B v c.flatten) (hB : B ≤ w.heap.size) :
    Calls Tryz.prog 30 #[rdV s, .pointer (some ⟨gc, 0, none⟩), .pointer (some ⟨gl, 0, none⟩)] w fun e w' => e = .returned (.bool (accR c s)) ∧ Below w.heap.size w w' := by
  have hl : ∀ r ∈ c.flatten, relB r = true := fun r hr => condB_rel hc hr
  have hl6 := condB_total hc
  have htot := total_flatten c
  have hcall := fun W (hW : Below w.heap.size w W) (hrow : RdRow W w.heap.size s) => dholds_any cv c B W (hcv.below (hW.mono hB)) (Nat.le_trans hB hW.size) hc 32 #[.pointer (some ⟨w.heap.size, 0, none⟩), .pointer (some ⟨gl, 0, none⟩)] (fun _ _ => by kernel_rfl) (fun i => trHolds (c.flatten.getD i ⟨0, 0, false, []⟩) (s.2.getD i (0, 0)))
    (fun W' i hb hi => (aut21_any s w.heap.size gl v c.flatten i B W' hs ((hb.block _ (Array.getElem?_eq_some_iff.1 hrow).1).trans hrow) ((hb.cell (p := ⟨gl, 0, none⟩) (Nat.lt_of_lt_of_le (World.block_lt_of_cell? w _ hgl) hW.size)).trans ((hW.cell (p := ⟨gl, 0, none⟩) (World.block_lt_of_cell? w _ hgl)).trans hgl)) ((hv.below (hW.mono hB)).below (hb.mono (Nat.le_trans hB hW.size))) (Nat.le_trans hB (Nat.le_trans hW.size hb.size)) hl hl6 (by omega)).mono fun _ _ h => ⟨h.1, hb.trans (h.2.mono hb.size)⟩)
  obtain ⟨H, hH⟩ : ∃ H, H = holdsAt c 0 (fun i => trHolds (c.flatten.getD i ⟨0, 0, false, []⟩) (s.2.getD i (0, 0))) := ⟨_, rfl⟩
  rw [← hH] at hcall
  unfold accR rdV
  rw [← hH]
  obtain ⟨A, hA⟩ : ∃ A, A = (rdC s).toArray := ⟨_, rfl⟩
  rw [← hA]
  have hlt := World.block_lt_of_cell? w _ hgc
  simp only at hlt
  obtain ⟨p, hp⟩ : ∃ p, p = s.1 := ⟨_, rfl⟩
  rw [← hp]
  obtain ⟨R, hR⟩ : ∃ R, R = ((decide (p = 1) || decide (p = 3)) && H) := ⟨_, rfl⟩
  rw [← hR]
  have HR := Lib.hid hR
  have HCALL := Lib.hid hcall
  have HA := Lib.hid hA
  have HP := Lib.hid hp
  have HLT := Lib.hid hlt
  have HGC := Lib.hid hgc
  obtain ⟨ao, cap, hvv, _⟩ := hcv
  clear hcall hl hl6 htot hH hgl hgc hlt hv hc hs hR hp hA
  go_enter Tryz.func30, Tryz.ntmps30
  go_upto_region 1 with fail
  obtain ⟨w1, hw1⟩ : ∃ w1, w1 = w.alloc (.cells A 73) := ⟨_, rfl⟩
  have hrow : RdRow w1 w.heap.size s := by
    rw [hw1, HA.out]
    exact heap_alloc_new w _
  have hb : Below w.heap.size w w1 := by rw [hw1]; exact (Below.refl _ _).alloc (Nat.le_refl _) _
  rw [← hw1]
  clear hw1
  obtain ⟨c0, _⟩ := hrow.c0
  rw [← HP.out] at c0
  have c1 := (hb.cell (p := ⟨gc, 0, none⟩) HLT.out).trans HGC.out
  have HROW := Lib.hid hrow
  have HB := Lib.hid hb
  clear hrow hb
  subst hvv
  by_cases k1 : p = 1
  · have k1b : ((p : Int) == 1) = true := by simp [k1]
    go_wp2_with (go_at_call 31; refine (HCALL.out _ HB.out HROW.out).mono ?_; rintro e w5 ⟨rfl, hb5⟩; have HB5 := Lib.hid hb5; clear hb5)
    go_ret
    exact ⟨ret_bool (by rw [HR.out]; simp [k1]), HB.out.trans (HB5.out.mono HB.out.size)⟩
  · have k1b : ((p : Int) == 1) = false := by simp; omega
    by_cases k3 : p = 3
    · have k3b : ((p : Int) == 3) = true := by simp [k3]
      go_wp2_with (go_at_call 31; refine (HCALL.out _ HB.out HROW.out).mono ?_; rintro e w5 ⟨rfl, hb5⟩; have HB5 := Lib.hid hb5; clear hb5)
      go_ret
      exact ⟨ret_bool (by rw [HR.out]; simp [k3]), HB.out.trans (HB5.out.mono HB.out.size)⟩
    · have k3b : ((p : Int) == 3) = false := by simp; omega
      go_wp2
      go_ret
      exact ⟨ret_bool (by rw [HR.out]; simp [k1, k3]), HB.out⟩
end Go.Proofs.YtbkcmgjmhglghaaGreatDoor
