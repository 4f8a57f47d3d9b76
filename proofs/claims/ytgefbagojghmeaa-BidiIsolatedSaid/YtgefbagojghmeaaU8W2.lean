/-
  The walk of calqueref01.Next: it returns the model's own first element and its width.
-/
import Derived.Test.YtgefbagojghmeaaU8W1
import Derived.Deep.QuietTactic
import Derived.BigQuiet
import Derived.Deep.RegionWith
import Derived.Deep.DrawnRows
namespace Go.Proofs.Ytgefbagojghmeaa
open Go.RowKit
attribute [local go_sem ↓] Go.wp_at_zero Go.wp_at_succ

def bt (s : ByteArray) (i : Nat) : Int := ((s.data.toList.getD i 0).toNat : Int)
theorem bt_at (s : ByteArray) (i : Nat) (h : i < s.size) : ((s[i]'h).toNat : Int) = bt s i := by
  unfold bt
  rw [Lib.getD_get!']
  congr 2
  simp [ByteArray.get!, getElem!_pos, h]
  rfl
theorem bt_lt (s : ByteArray) (i : Nat) : 0 ≤ bt s i ∧ bt s i < 256 := by
  unfold bt
  have := (s.data.toList.getD i 0).toNat_lt
  omega
/-- What the loop gathers. -/
def accN (s : ByteArray) (n0 : Int) : Nat → Int
  | 0 => n0
  | k + 1 => if k = 0 then n0 else 64 * accN s n0 k + bt s k - 128
def contB (s : ByteArray) (i : Nat) : Prop := 128 ≤ bt s i ∧ bt s i ≤ 191
theorem acc_bd (s : ByteArray) (n0 : Int) (h0 : 0 ≤ n0) (h1 : n0 ≤ 31) (k : Nat) (hk : 1 ≤ k) (hk4 : k ≤ 4) (hc : ∀ j, 1 ≤ j → j < k → contB s j) : 0 ≤ accN s n0 k ∧ accN s n0 k ≤ 8388607 := by
  have c1 := hc 1; have c2 := hc 2; have c3 := hc 3
  unfold contB at c1 c2 c3
  rcases (show k = 1 ∨ k = 2 ∨ k = 3 ∨ k = 4 by omega) with rfl | rfl | rfl | rfl
  · simp [accN]; omega
  · have := c1 (by omega) (by omega); simp [accN]; omega
  · have := c1 (by omega) (by omega); have := c2 (by omega) (by omega); simp [accN]; omega
  · have := c1 (by omega) (by omega); have := c2 (by omega) (by omega); have := c3 (by omega) (by omega); simp [accN]; omega

def Conts (s : ByteArray) (k : Nat) : Prop := ∀ j, 1 ≤ j → j < k → contB s j
theorem conts_succ {s : ByteArray} {k : Nat} (h : Conts s k) (hk : contB s k) : Conts s (k + 1) := by
  intro j h1 h2
  by_cases e : j = k
  · subst e; exact hk
  · exact h j h1 (by omega)
theorem acc_succ (s : ByteArray) (n0 : Int) (k : Nat) (hk : 1 ≤ k) : accN s n0 (k + 1) = 64 * accN s n0 k + bt s k - 128 := by
  show (if k = 0 then n0 else _) = _
  rw [if_neg (by omega)]
/-- The three ways out: a byte that is none of a tail; no code point, or not its encoding; the element. -/
theorem point_same (n : Int) (w : World) : Calls Try.prog 45 #[.int .i64 n] w fun e w' => e = .returned (.bool (pointB n)) ∧ w' = w := (point_any n w).mono fun _ _ ⟨h, k⟩ => ⟨h, k.symm⟩
def NextP (s : ByteArray) (acc : Nat → Int) (sz : Nat) (w : World) (e : Ending) (w' : World) : Prop :=
  ((∃ k, 1 ≤ k ∧ k < sz ∧ ¬ contB s k) ∧ e = .returned (.tuple #[.int .i64 65533, .int .i64 1]) ∧ Below w.heap.size w w') ∨
  (Conts s sz ∧ (pointB (acc sz) = false ∨ (!(strOfNums (oneL (acc sz))).toList == (s.extract 0 sz).toList) = true) ∧ e = .returned (.tuple #[.int .i64 65533, .int .i64 1]) ∧ Below w.heap.size w w') ∨
  (Conts s sz ∧ pointB (acc sz) = true ∧ (!(strOfNums (oneL (acc sz))).toList == (s.extract 0 sz).toList) = false ∧ e = .returned (.tuple #[.int .i64 (acc sz), .int .i64 sz]) ∧ Below w.heap.size w w')

set_option maxRecDepth 100000 in
set_option maxHeartbeats 1000000 in
theorem next_2 (s : ByteArray) (w : World) (hs : s.size ≤ 4611686018427387904) (h0 : 0 < s.size) (hb : 192 ≤ (s[0]'h0).toNat ∧ (s[0]'h0).toNat < 224) (hl : 2 ≤ s.size) :
    Calls Try.prog 36 #[.string s] w (NextP s (accN s (bt s 0 - 192)) 2 w) := by
  obtain ⟨b1, b2⟩ := hb
  have HB := Lib.hid (bt_at s 0 h0)
  have d0 : decide (((s[0]'h0).toNat : Int) < 128) = false := by simp; omega
  have d1 : decide (((s[0]'h0).toNat : Int) < 224) = true := by simp; omega
  have dz : decide ((s.size : Int) < 2) = false := by simp; omega
  go_enter Try.func36, Try.ntmps36
  go_wp2
  go_loop [4, 6] (fun n i => ∃ k : Nat, 1 ≤ k ∧ k ≤ 2 ∧ i = .int .i64 k ∧ n = .int .i64 (accN s (bt s 0 - 192) k) ∧ Conts s k) (fun _ i => 2 - (intOf i).toNat)
  case atStart => exact ⟨1, by omega, by omega, rfl, by rw [HB.out]; rfl, fun j h1 h2 => by omega⟩
  case round =>
    obtain ⟨k, hk1, hk2, rfl, rfl, hc⟩ := hrel
    have hbd := acc_bd s (bt s 0 - 192) (by rw [← HB.out]; omega) (by rw [← HB.out]; omega) k hk1 (by omega) hc
    obtain ⟨hbd1, hbd2⟩ := hbd
    have HC := Lib.hid hc
    clear hc
    by_cases hlt : k < 2
    · have hks : k < s.size := by omega
      have HK := Lib.hid (bt_at s k hks)
      by_cases g1 : 128 ≤ (s[k]'hks).toNat
      · by_cases g2 : (s[k]'hks).toNat ≤ 191
        · go_wp2
          go_round
          case rel => exact ⟨k + 1, by omega, by omega, by go_num, by rw [acc_succ s _ k hk1, ← HK.out], conts_succ HC.out ⟨by rw [← HK.out]; omega, by rw [← HK.out]; omega⟩⟩
          case measure => simp [intOf]; omega
        · go_wp2
          go_ret2
          exact .inl ⟨⟨k, hk1, by omega, fun h => by have := h.2; rw [← HK.out] at this; omega⟩, rfl, Below.refl _ _⟩
      · go_wp2
        go_ret2
        exact .inl ⟨⟨k, hk1, by omega, fun h => by have := h.1; rw [← HK.out] at this; omega⟩, rfl, Below.refl _ _⟩
    · obtain rfl : k = 2 := by omega
      by_cases hp : pointB (accN s (bt s 0 - 192) 2) = true
      · have hp1 : 0 ≤ accN s (bt s 0 - 192) 2 ∧ accN s (bt s 0 - 192) 2 ≤ 1114111 := by simp [pointB] at hp; omega
        go_wp2
        go_region_with (first | (go_at_call 45; refine (point_any _ _).mono ?_; rintro e w' ⟨rfl, rfl⟩) | (go_at_call 46; refine (one_any _ _ hp1.1 hp1.2).mono ?_; rintro e w' ⟨rfl, hb⟩))
        all_goals go_wp2
        all_goals go_ret2
        all_goals first
          | exact .inr (.inl ⟨HC.out, .inr ‹_›, rfl, (by first | exact (Below.refl _ w).drew.trans hb | exact ((Below.refl _ w).drew.trans hb).drew | exact hb | exact (Below.refl _ w).trans hb)⟩)
          | exact .inr (.inr ⟨HC.out, hp, ‹_›, rfl, (by first | exact (Below.refl _ w).drew.trans hb | exact ((Below.refl _ w).drew.trans hb).drew | exact hb | exact (Below.refl _ w).trans hb)⟩)
      · have hp0 : pointB (accN s (bt s 0 - 192) 2) = false := by simpa using hp
        clear hp
        go_wp2
        go_quiet ((go_at_call 45; exact Calls.quiet_of_same (point_same _ _)))
        go_wp2
        go_ret2
        exact .inr (.inl ⟨HC.out, .inl hp0, rfl, belowN (Below.refl _ _) _⟩)
set_option maxRecDepth 100000 in
set_option maxHeartbeats 1000000 in
theorem next_3 (s : ByteArray) (w : World) (hs : s.size ≤ 4611686018427387904) (h0 : 0 < s.size) (hb : 224 ≤ (s[0]'h0).toNat ∧ (s[0]'h0).toNat < 240) (hl : 3 ≤ s.size) :
    Calls Try.prog 36 #[.string s] w (NextP s (accN s (bt s 0 - 224)) 3 w) := by
  obtain ⟨b1, b2⟩ := hb
  have HB := Lib.hid (bt_at s 0 h0)
  have d0 : decide (((s[0]'h0).toNat : Int) < 128) = false := by simp; omega
  have d1 : decide (((s[0]'h0).toNat : Int) < 224) = false := by simp; omega
  have d2 : decide (((s[0]'h0).toNat : Int) < 240) = true := by simp; omega
  have dz : decide ((s.size : Int) < 3) = false := by simp; omega
  go_enter Try.func36, Try.ntmps36
  go_wp2
  go_loop [4, 6] (fun n i => ∃ k : Nat, 1 ≤ k ∧ k ≤ 3 ∧ i = .int .i64 k ∧ n = .int .i64 (accN s (bt s 0 - 224) k) ∧ Conts s k) (fun _ i => 3 - (intOf i).toNat)
  case atStart => exact ⟨1, by omega, by omega, rfl, by rw [HB.out]; rfl, fun j h1 h2 => by omega⟩
  case round =>
    obtain ⟨k, hk1, hk2, rfl, rfl, hc⟩ := hrel
    have hbd := acc_bd s (bt s 0 - 224) (by rw [← HB.out]; omega) (by rw [← HB.out]; omega) k hk1 (by omega) hc
    obtain ⟨hbd1, hbd2⟩ := hbd
    have HC := Lib.hid hc
    clear hc
    by_cases hlt : k < 3
    · have hks : k < s.size := by omega
      have HK := Lib.hid (bt_at s k hks)
      by_cases g1 : 128 ≤ (s[k]'hks).toNat
      · by_cases g2 : (s[k]'hks).toNat ≤ 191
        · go_wp2
          go_round
          case rel => exact ⟨k + 1, by omega, by omega, by go_num, by rw [acc_succ s _ k hk1, ← HK.out], conts_succ HC.out ⟨by rw [← HK.out]; omega, by rw [← HK.out]; omega⟩⟩
          case measure => simp [intOf]; omega
        · go_wp2
          go_ret2
          exact .inl ⟨⟨k, hk1, by omega, fun h => by have := h.2; rw [← HK.out] at this; omega⟩, rfl, Below.refl _ _⟩
      · go_wp2
        go_ret2
        exact .inl ⟨⟨k, hk1, by omega, fun h => by have := h.1; rw [← HK.out] at this; omega⟩, rfl, Below.refl _ _⟩
    · obtain rfl : k = 3 := by omega
      by_cases hp : pointB (accN s (bt s 0 - 224) 3) = true
      · have hp1 : 0 ≤ accN s (bt s 0 - 224) 3 ∧ accN s (bt s 0 - 224) 3 ≤ 1114111 := by simp [pointB] at hp; omega
        go_wp2
        go_region_with (first | (go_at_call 45; refine (point_any _ _).mono ?_; rintro e w' ⟨rfl, rfl⟩) | (go_at_call 46; refine (one_any _ _ hp1.1 hp1.2).mono ?_; rintro e w' ⟨rfl, hb⟩))
        all_goals go_wp2
        all_goals go_ret2
        all_goals first
          | exact .inr (.inl ⟨HC.out, .inr ‹_›, rfl, (by first | exact (Below.refl _ w).drew.trans hb | exact ((Below.refl _ w).drew.trans hb).drew | exact hb | exact (Below.refl _ w).trans hb)⟩)
          | exact .inr (.inr ⟨HC.out, hp, ‹_›, rfl, (by first | exact (Below.refl _ w).drew.trans hb | exact ((Below.refl _ w).drew.trans hb).drew | exact hb | exact (Below.refl _ w).trans hb)⟩)
      · have hp0 : pointB (accN s (bt s 0 - 224) 3) = false := by simpa using hp
        clear hp
        go_wp2
        go_quiet ((go_at_call 45; exact Calls.quiet_of_same (point_same _ _)))
        go_wp2
        go_ret2
        exact .inr (.inl ⟨HC.out, .inl hp0, rfl, belowN (Below.refl _ _) _⟩)
set_option maxRecDepth 100000 in
set_option maxHeartbeats 1000000 in
theorem next_4 (s : ByteArray) (w : World) (hs : s.size ≤ 4611686018427387904) (h0 : 0 < s.size) (hb : 240 ≤ (s[0]'h0).toNat ∧ (s[0]'h0).toNat < 248) (hl : 4 ≤ s.size) :
    Calls Try.prog 36 #[.string s] w (NextP s (accN s (bt s 0 - 240)) 4 w) := by
  obtain ⟨b1, b2⟩ := hb
  have HB := Lib.hid (bt_at s 0 h0)
  have d0 : decide (((s[0]'h0).toNat : Int) < 128) = false := by simp; omega
  have d1 : decide (((s[0]'h0).toNat : Int) < 224) = false := by simp; omega
  have d2 : decide (((s[0]'h0).toNat : Int) < 240) = false := by simp; omega
  have d3 : decide (((s[0]'h0).toNat : Int) < 248) = true := by simp; omega
  have dz : decide ((s.size : Int) < 4) = false := by simp; omega
  go_enter Try.func36, Try.ntmps36
  go_wp2
  go_loop [4, 6] (fun n i => ∃ k : Nat, 1 ≤ k ∧ k ≤ 4 ∧ i = .int .i64 k ∧ n = .int .i64 (accN s (bt s 0 - 240) k) ∧ Conts s k) (fun _ i => 4 - (intOf i).toNat)
  case atStart => exact ⟨1, by omega, by omega, rfl, by rw [HB.out]; rfl, fun j h1 h2 => by omega⟩
  case round =>
    obtain ⟨k, hk1, hk2, rfl, rfl, hc⟩ := hrel
    have hbd := acc_bd s (bt s 0 - 240) (by rw [← HB.out]; omega) (by rw [← HB.out]; omega) k hk1 (by omega) hc
    obtain ⟨hbd1, hbd2⟩ := hbd
    have HC := Lib.hid hc
    clear hc
    by_cases hlt : k < 4
    · have hks : k < s.size := by omega
      have HK := Lib.hid (bt_at s k hks)
      by_cases g1 : 128 ≤ (s[k]'hks).toNat
      · by_cases g2 : (s[k]'hks).toNat ≤ 191
        · go_wp2
          go_round
          case rel => exact ⟨k + 1, by omega, by omega, by go_num, by rw [acc_succ s _ k hk1, ← HK.out], conts_succ HC.out ⟨by rw [← HK.out]; omega, by rw [← HK.out]; omega⟩⟩
          case measure => simp [intOf]; omega
        · go_wp2
          go_ret2
          exact .inl ⟨⟨k, hk1, by omega, fun h => by have := h.2; rw [← HK.out] at this; omega⟩, rfl, Below.refl _ _⟩
      · go_wp2
        go_ret2
        exact .inl ⟨⟨k, hk1, by omega, fun h => by have := h.1; rw [← HK.out] at this; omega⟩, rfl, Below.refl _ _⟩
    · obtain rfl : k = 4 := by omega
      by_cases hp : pointB (accN s (bt s 0 - 240) 4) = true
      · have hp1 : 0 ≤ accN s (bt s 0 - 240) 4 ∧ accN s (bt s 0 - 240) 4 ≤ 1114111 := by simp [pointB] at hp; omega
        go_wp2
        go_region_with (first | (go_at_call 45; refine (point_any _ _).mono ?_; rintro e w' ⟨rfl, rfl⟩) | (go_at_call 46; refine (one_any _ _ hp1.1 hp1.2).mono ?_; rintro e w' ⟨rfl, hb⟩))
        all_goals go_wp2
        all_goals go_ret2
        all_goals first
          | exact .inr (.inl ⟨HC.out, .inr ‹_›, rfl, (by first | exact (Below.refl _ w).drew.trans hb | exact ((Below.refl _ w).drew.trans hb).drew | exact hb | exact (Below.refl _ w).trans hb)⟩)
          | exact .inr (.inr ⟨HC.out, hp, ‹_›, rfl, (by first | exact (Below.refl _ w).drew.trans hb | exact ((Below.refl _ w).drew.trans hb).drew | exact hb | exact (Below.refl _ w).trans hb)⟩)
      · have hp0 : pointB (accN s (bt s 0 - 240) 4) = false := by simpa using hp
        clear hp
        go_wp2
        go_quiet ((go_at_call 45; exact Calls.quiet_of_same (point_same _ _)))
        go_wp2
        go_ret2
        exact .inr (.inl ⟨HC.out, .inl hp0, rfl, belowN (Below.refl _ _) _⟩)
set_option maxRecDepth 100000 in
theorem next_low (s : ByteArray) (w : World) (h0 : 0 < s.size) (hb : (s[0]'h0).toNat < 128) :
    Calls Try.prog 36 #[.string s] w fun e w' => e = .returned (.tuple #[.int .i64 (s[0]'h0).toNat, .int .i64 1]) ∧ w = w' := by
  go_enter Try.func36, Try.ntmps36
  go_wp2
  go_ret2
  exact ⟨rfl, rfl⟩
set_option maxRecDepth 100000 in
theorem next_bada (s : ByteArray) (w : World) (h0 : 0 < s.size) (hb : 128 ≤ (s[0]'h0).toNat) (hh : (s[0]'h0).toNat < 192) :
    Calls Try.prog 36 #[.string s] w fun e w' => e = .returned (.tuple #[.int .i64 65533, .int .i64 1]) ∧ w = w' := by
  go_enter Try.func36, Try.ntmps36
  go_wp2
  go_ret2
  exact ⟨rfl, rfl⟩
set_option maxRecDepth 100000 in
theorem next_badb (s : ByteArray) (w : World) (h0 : 0 < s.size) (hb : 248 ≤ (s[0]'h0).toNat) (hh : (s[0]'h0).toNat < 256) :
    Calls Try.prog 36 #[.string s] w fun e w' => e = .returned (.tuple #[.int .i64 65533, .int .i64 1]) ∧ w = w' := by
  go_enter Try.func36, Try.ntmps36
  go_wp2
  go_ret2
  exact ⟨rfl, rfl⟩
set_option maxRecDepth 100000 in
theorem next_bad2 (s : ByteArray) (w : World) (hs : s.size ≤ 4611686018427387904) (h0 : 0 < s.size) (hb : 192 ≤ (s[0]'h0).toNat) (hh : (s[0]'h0).toNat < 224) (hl : s.size < 2) :
    Calls Try.prog 36 #[.string s] w fun e w' => e = .returned (.tuple #[.int .i64 65533, .int .i64 1]) ∧ w = w' := by
  go_enter Try.func36, Try.ntmps36
  go_wp2
  go_ret2
  exact ⟨rfl, rfl⟩
set_option maxRecDepth 100000 in
theorem next_bad3 (s : ByteArray) (w : World) (hs : s.size ≤ 4611686018427387904) (h0 : 0 < s.size) (hb : 224 ≤ (s[0]'h0).toNat) (hh : (s[0]'h0).toNat < 240) (hl : s.size < 3) :
    Calls Try.prog 36 #[.string s] w fun e w' => e = .returned (.tuple #[.int .i64 65533, .int .i64 1]) ∧ w = w' := by
  go_enter Try.func36, Try.ntmps36
  go_wp2
  go_ret2
  exact ⟨rfl, rfl⟩
set_option maxRecDepth 100000 in
theorem next_bad4 (s : ByteArray) (w : World) (hs : s.size ≤ 4611686018427387904) (h0 : 0 < s.size) (hb : 240 ≤ (s[0]'h0).toNat) (hh : (s[0]'h0).toNat < 248) (hl : s.size < 4) :
    Calls Try.prog 36 #[.string s] w fun e w' => e = .returned (.tuple #[.int .i64 65533, .int .i64 1]) ∧ w = w' := by
  go_enter Try.func36, Try.ntmps36
  go_wp2
  go_ret2
  exact ⟨rfl, rfl⟩
end Go.Proofs.Ytgefbagojghmeaa
