/-
  SameInts: whether two slices of integers are the same.
-/
import Derived.Test.YtgefbagojghmeaaU8I
namespace Go.Proofs.Ytgefbagojghmeaa
open Go.RowKit

theorem take_ext {xs ys : List Int} {k : Nat} (h : xs.take k = ys.take k) (hx : k < xs.length) (hy : k < ys.length) (he : xs.getD k 0 = ys.getD k 0) : xs.take (k + 1) = ys.take (k + 1) := by
  rw [List.take_succ_eq_append_getElem hx, List.take_succ_eq_append_getElem hy, h]
  simp [List.getD, hx, hy] at he
  rw [he]
def SameP (xs ys : List Int) (w : World) (e : Ending) (w' : World) : Prop := e = .returned (.bool (decide (xs = ys))) ∧ Below w.heap.size w w'

set_option maxHeartbeats 1000000 in
theorem same_any (v u : Value) (xs ys : List Int) (B B' : Nat) (w : World) (hv : IsInts w B v xs) (hu : IsInts w B' u ys) (hy : ys.length ≤ 4611686018427387904) :
    Calls Try.prog 20 #[v, u] w (SameP xs ys w) := by
  obtain ⟨ao, ca, rfl, ha⟩ := hv
  obtain ⟨bo, cb, rfl, hb⟩ := hu
  have HA := Lib.hid ha
  have HB := Lib.hid hb
  clear ha hb
  by_cases hl : xs.length = ys.length
  · have hl' : ((xs.length : Int) != (ys.length : Int)) = false := by simp [hl]
    obtain ⟨n, hn⟩ : ∃ n, n = ys.length := ⟨_, rfl⟩
    rw [hl, ← hn] at hl'
    rw [hl, ← hn]
    rw [← hn] at hy
    have HL := Lib.hid (hl.trans hn.symm)
    have HN := Lib.hid hn
    clear hl hn
    go_enter Try.func20, Try.ntmps20
    go_wp2
    go_loopw [5] (fun i wr => ∃ k m : Nat, k ≤ n ∧ i = .int .i64 k ∧ wr = w.drewN m ∧ xs.take k = ys.take k) (fun i _ => n - (intOf i).toNat)
    case atStart => exact ⟨0, 0, Nat.zero_le _, rfl, rfl, rfl⟩
    case round =>
      obtain ⟨k, m, hk, rfl, rfl, ht⟩ := hrel
      have HT := Lib.hid ht
      clear ht
      by_cases hlt : k < n
      · obtain ⟨b, o, rfl, _, hc⟩ := HA.out (by have := HL.out; omega)
        obtain ⟨b', o', rfl, _, hc'⟩ := HB.out (by have := HN.out; omega)
        have c1 := hc k (by have := HL.out; omega)
        have c2 := hc' k (by have := HN.out; omega)
        obtain ⟨x, hx⟩ : ∃ x, x = xs.getD k 0 := ⟨_, rfl⟩
        obtain ⟨y, hy⟩ : ∃ y, y = ys.getD k 0 := ⟨_, rfl⟩
        rw [← hx] at c1
        rw [← hy] at c2
        have HX := Lib.hid hx
        have HY := Lib.hid hy
        clear hx hy hc hc'
        have k0 : (0 : Int) ≤ (k : Int) := by omega
        have k1 : (k : Int) < (n : Int) := by omega
        by_cases he : x = y
        · have he' : (x != y) = false := by simp [he]
          have HE := Lib.hid he
          clear he
          go_wp2
          go_quiet (fail)
          go_wp2
          go_roundw
          case rel => exact ⟨k + 1, _, by omega, by go_num, rfl, take_ext HT.out (by have := HL.out; omega) (by have := HN.out; omega) (by rw [← HX.out, ← HY.out]; exact HE.out)⟩
          case measure => simp [intOf]; omega
        · have he' : (x != y) = true := by simp [he]
          have HE := Lib.hid he
          clear he
          go_wp2
          go_quiet (fail)
          go_wp2
          go_ret
          refine ⟨ret_bool ?_, belowN (belowN (Below.refl _ w) _) _⟩
          rw [eq_comm, decide_eq_false_iff_not]
          rintro rfl
          exact HE.out (HX.out.trans HY.out.symm)
      · go_wp2
        go_ret
        refine ⟨ret_bool ?_, belowN (Below.refl _ w) _⟩
        rw [eq_comm, decide_eq_true_iff]
        have := HT.out
        rwa [List.take_of_length_le (by have := HL.out; omega), List.take_of_length_le (by have := HN.out; omega)] at this
  · have hl' : ((xs.length : Int) != (ys.length : Int)) = true := by simp; omega
    have HL := Lib.hid hl
    clear hl
    go_enter Try.func20, Try.ntmps20
    go_wp2
    go_ret
    refine ⟨ret_bool ?_, Below.refl _ w⟩
    rw [eq_comm, decide_eq_false_iff_not]
    rintro rfl
    exact HL.out rfl
end Go.Proofs.Ytgefbagojghmeaa
