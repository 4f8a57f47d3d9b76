/-
  utf8.Encode: the encodings of numbers, one after the other.
-/
import Derived.Test.YtgefbagojghmeaaBld2
import Derived.Test.YtgefbagojghmeaaU8I
namespace Go.Proofs.Ytgefbagojghmeaa
open Go.RowKit

theorem upoint_any (n : Int) (w : World) : Calls Try.prog 49 #[.int .i64 n] w fun e w' => e = .returned (.bool (pointB n)) ∧ w = w' := by
  by_cases h : 0 ≤ n <;> by_cases h1 : n ≤ 1114111 <;> by_cases h2 : n < 55296 <;> by_cases h3 : 57343 < n
  all_goals first | (exfalso; omega) | skip
  all_goals
    go_enter Try.func49, Try.ntmps49
    go_wp2
    go_ret
    exact ⟨ret_bool (by simp [pointB]; omega), rfl⟩

def encL (xs : List Int) : List UInt8 := U8.encN (xs.map norm)
theorem encL_snoc (xs : List Int) (n : Int) : Lib.byteCells (encL (xs ++ [n])) = Lib.byteCells (encL xs) ++ Lib.runeCells (norm n : Int) := by
  unfold encL
  rw [List.map_append, U8.encN_append, Lib.byteCells_append, norm_cells]
  simp [U8.encN]
theorem encL_len (xs : List Int) : (encL xs).length ≤ 4 * xs.length := by
  have := U8.encN_len (xs.map norm)
  rwa [List.length_map] at this
def EncodeP (xs : List Int) (w : World) (e : Ending) (w' : World) : Prop := e = .returned (.string (encS xs)) ∧ Below w.heap.size w w'

set_option maxRecDepth 100000 in
set_option maxHeartbeats 1000000 in
theorem encode_any (v : Value) (xs : List Int) (hx : xs.length ≤ 1000000) (w : World) (hv : IsInts w w.heap.size v xs) : Calls Try.prog 35 #[v] w (EncodeP xs w) := by
  obtain ⟨ao, ca, rfl, ha⟩ := hv
  obtain ⟨n, hn⟩ : ∃ n, n = xs.length := ⟨_, rfl⟩
  rw [← hn] at ha hx
  rw [← hn]
  have HA := Lib.hid ha
  have HN := Lib.hid hn
  clear ha hn
  go_enter Try.func35, Try.ntmps35
  go_wp2
  go_loopw [5, 8] (fun _ i wr => ∃ k : Nat, k ≤ n ∧ i = .int .i64 k ∧ Bld w.heap.size w.heap.size (Lib.byteCells (encL (xs.take k))) wr ∧ Below w.heap.size w wr) (fun _ i _ => n - (intOf i).toNat)
  case atStart => exact ⟨0, Nat.zero_le _, rfl, Lib.IsBuilderF.of (Lib.fresh_isBuilder _ _ w), (Below.refl _ _).alloc (Nat.le_refl _) _⟩
  case round =>
    obtain ⟨k, hk, rfl, hbl, hbel⟩ := hrel
    have hes := encL_len (xs.take k)
    have hes2 : (Lib.byteCells (encL (xs.take k))).length ≤ 4000000 := by rw [Lib.byteCells_length]; rw [List.length_take] at hes; omega
    obtain ⟨t, ht⟩ : ∃ t, encL (xs.take k) = t := ⟨_, rfl⟩
    rw [ht] at hes2 hbl
    have HT := Lib.hid ht
    clear ht hes
    by_cases hlt : k < n
    · obtain ⟨b, o, rfl, hbw, hc⟩ := HA.out (by have := HN.out; omega)
      have c1 := (hbel.cell (p := ⟨b, o + k, none⟩) hbw).trans (hc k (by have := HN.out; omega))
      have hs := encL_snoc (xs.take k) (xs.getD k 0)
      rw [← take_more (by have := HN.out; omega)] at hs
      obtain ⟨x, hx'⟩ : ∃ x, xs.getD k 0 = x := ⟨_, rfl⟩
      rw [hx'] at c1 hs
      rw [HT.out] at hs
      have HS := Lib.hid hs
      have HBL := Lib.hid hbel
      have HB := Lib.hid hbl
      have k0 : (0 : Int) ≤ (k : Int) := by omega
      have k1 : (k : Int) < (n : Int) := by omega
      clear hc hx' hs hbel hbl
      by_cases hp : pointB x = true
      · have hp1 : 0 ≤ x ∧ x ≤ 1114111 := by simp [pointB] at hp; omega
        have hnm : (norm x : Int) = x := by unfold norm; rw [if_pos hp]; omega
        have HNM := Lib.hid hnm
        clear hnm
        go_wp2_with fail
        refine (upoint_any _ _).mono ?_
        rintro e w1 ⟨rfl, rfl⟩
        go_wp2_with fail
        refine (writeRune_any _ _ _ x (by omega) (by omega) _ HB.out (by omega) HBL.out.size).mono ?_
        rintro e w2 ⟨rfl, hb2, hbe2, _⟩
        have HB2 := Lib.hid hb2
        have HBE := Lib.hid (HBL.out.trans hbe2)
        clear hb2 hbe2
        go_wp2
        go_roundw
        case rel => exact ⟨k + 1, by omega, by go_num, by rw [HS.out, HNM.out]; exact .inr HB2.out, HBE.out⟩
        case measure => simp [intOf]; omega
      · have hp0 : pointB x = false := by simpa using hp
        clear hp
        have hnm : norm x = 65533 := by unfold norm; rw [hp0]; rfl
        have HNM := Lib.hid hnm
        clear hnm
        go_wp2_with fail
        refine (upoint_any _ _).mono ?_
        rintro e w1 ⟨rfl, rfl⟩
        go_wp2_with fail
        refine (writeRune_any _ _ _ 65533 (by decide) (by decide) _ HB.out (by omega) HBL.out.size).mono ?_
        rintro e w2 ⟨rfl, hb2, hbe2, _⟩
        have HB2 := Lib.hid hb2
        have HBE := Lib.hid (HBL.out.trans hbe2)
        clear hb2 hbe2
        go_wp2
        go_roundw
        case rel => exact ⟨k + 1, by omega, by go_num, by rw [HS.out, HNM.out]; exact .inr HB2.out, HBE.out⟩
        case measure => simp [intOf]; omega
    · have ht : encL xs = t := by
        have := HT.out
        rwa [List.take_of_length_le (by have := HN.out; omega)] at this
      have HT2 := Lib.hid ht
      have HBL := Lib.hid hbel
      have HB := Lib.hid hbl
      clear ht hbel hbl
      go_wp2_with fail
      refine (Any.Builder_String_any_k Try.layB169 Try.layBx _ _ t _ HB.out HBL.out.size).mono ?_
      rintro e w2 ⟨rfl, _, hbe2, _⟩
      have HBE := Lib.hid (HBL.out.trans hbe2)
      clear hbe2
      go_wp2
      go_ret
      unfold EncodeP encS
      refine ⟨?_, HBE.out⟩
      have := HT2.out
      unfold encL at this
      rw [this]
      rfl
end Go.Proofs.Ytgefbagojghmeaa
