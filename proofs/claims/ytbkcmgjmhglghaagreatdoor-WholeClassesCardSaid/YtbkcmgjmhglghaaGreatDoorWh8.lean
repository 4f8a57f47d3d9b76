/-
  decide.before.
-/
import Derived.Test.YtbkcmgjmhglghaaGreatDoorWh3
import Derived.StillTailTactics
namespace Go.Proofs.YtbkcmgjmhglghaaGreatDoor
open Go.RowKit

/-- Some Bool. -/
def SomeB (e : Ending) : Prop := ∃ v, e = .returned (.bool v)
theorem below_drewN {B : Nat} {a w : World} (h : Below B a w) (n : Nat) : Below B a (w.drewN n) := ⟨h.os, h.tape, h.output, h.size, h.block⟩
set_option maxRecDepth 100000 in
set_option maxHeartbeats 3200000 in
theorem before_any (a b : ByteArray) (w : World) (ha : a.size ≤ 1000) : Calls Tryz.prog 81 #[.string a, .string b] w fun e w' => SomeB e ∧ Below w.heap.size w w' := by
  by_cases hlen : a.size = b.size
  · have h1 : ((a.size : Int) != (b.size : Int)) = false := by simp [hlen]
    obtain ⟨n, hn⟩ : ∃ n, n = a.size := ⟨_, rfl⟩
    have HN := Lib.hid hn
    have HL := Lib.hid hlen
    go_enter Tryz.func81, Tryz.ntmps81
    go_wp2
    go_loopw [18] (fun iv wr => ∃ i : Nat, i ≤ n ∧ iv = .int .i64 i ∧ Below w.heap.size w wr) (fun iv _ => n - (intOf iv).toNat)
    case atStart => exact ⟨0, Nat.zero_le _, rfl, Below.refl _ _⟩
    case round =>
      obtain ⟨i, hi, rfl, hbw⟩ := hrel
      have i0 : (0 : Int) ≤ (i : Int) := by omega
      by_cases hlt : i < n
      · have ia : (i : Int) < (a.size : Int) := by omega
        have ib : (i : Int) < (b.size : Int) := by omega
        have ka : i < a.size := by omega
        have kb : i < b.size := by omega
        obtain ⟨x, hx⟩ : ∃ x : Nat, (a[i]'ka).toNat = x := ⟨_, rfl⟩
        obtain ⟨y, hy⟩ : ∃ y : Nat, (b[i]'kb).toNat = y := ⟨_, rfl⟩
        have HBW := Lib.hid hbw
        clear hbw
        go_upto_region 6 with fail
        by_cases hxy : x = y
        · have e1 : ((x : Int) != (y : Int)) = false := by simp [hxy]
          go_quiet (fail)
          go_wp2
          go_roundw
          case rel => exact ⟨i + 1, by omega, by go_num, below_drewN HBW.out _⟩
          case measure => simp [intOf] <;> omega
        · have e1 : ((x : Int) != (y : Int)) = true := by simp; omega
          go_quiet (fail)
          go_upto_region 7 with fail
          by_cases hy6 : y = 46
          · have e2 : ((y : Int) == 46) = true := by simp [hy6]
            go_quiet (fail)
            go_wp2
            go_ret
            exact ⟨⟨_, rfl⟩, below_drewN (below_drewN HBW.out _) _⟩
          · have e2 : ((y : Int) == 46) = false := by simp; omega
            by_cases hx6 : x = 46
            · have e3 : ((x : Int) != 46) = false := by simp [hx6]
              go_quiet (fail)
              go_wp2
              go_ret
              exact ⟨⟨_, rfl⟩, below_drewN (below_drewN HBW.out _) _⟩
            · have e3 : ((x : Int) != 46) = true := by simp; omega
              go_quiet (fail)
              go_wp2
              go_ret
              exact ⟨⟨_, rfl⟩, below_drewN (below_drewN HBW.out _) _⟩
      · have ia : ¬ (i : Int) < (a.size : Int) := by omega
        go_wp2
        go_ret
        exact ⟨⟨_, rfl⟩, hbw⟩
  · have h1 : ((a.size : Int) != (b.size : Int)) = true := by simp; omega
    go_enter Tryz.func81, Tryz.ntmps81
    go_wp2
    go_ret
    exact ⟨⟨_, rfl⟩, Below.refl _ _⟩
end Go.Proofs.YtbkcmgjmhglghaaGreatDoor
