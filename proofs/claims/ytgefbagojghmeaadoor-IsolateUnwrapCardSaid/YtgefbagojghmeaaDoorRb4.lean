/-
  calqueref24.Strip.
-/
import Derived.Test.YtgefbagojghmeaaDoorRb3
import Derived.Test.YtgefbagojghmeaaDoorEncF
namespace Go.Proofs.YtgefbagojghmeaaDoor
open Go.RowKit

set_option maxRecDepth 100000 in
set_option maxHeartbeats 1000000 in
theorem refstrip_any (s : ByteArray) (hs : s.size ≤ 10000) (w : World) : Calls Tryd.prog 16 #[.string s] w (StripP (ints (U8.els s.data.toList)) w) := by
  have hle := U8.els_len s.data.toList
  rw [U8.size_len] at hle
  have hli : (ints (U8.els s.data.toList)).length ≤ 10000 := by unfold ints; rw [List.length_map]; omega
  have hd := refdecode_any s (by omega)
  have hpt := els_points s
  unfold DecP at hd
  unfold StripP
  obtain ⟨xs, hxs⟩ : ∃ xs, ints (U8.els s.data.toList) = xs := ⟨_, rfl⟩
  rw [hxs] at hd hli hpt
  rw [hxs]
  obtain ⟨n, hn⟩ : ∃ n, n = xs.length := ⟨_, rfl⟩
  rw [← hn] at hli
  have HN := Lib.hid hn
  have HD := Lib.hid hd
  have HP := Lib.hid hpt
  clear hd hxs hn hpt hle
  go_enter Tryd.func16, Tryd.ntmps16
  go_wp2_with fail
  refine (HD.out _).mono ?_
  rintro e w1 ⟨v, rfl, ho, hb1⟩
  have hii := IsInts.of_own ho
  obtain ⟨ao, ca, rfl, ha⟩ := hii
  rw [← HN.out] at ha
  rw [← HN.out]
  have HA := Lib.hid ha
  have HB1 := Lib.hid hb1
  clear ha hb1 ho
  go_wp2
  go_loopw [4, 5, 6] (fun t i _ wr => ∃ k : Nat, k ≤ n ∧ i = .int .i64 k ∧ t = .string (encS (stripL (xs.take k))) ∧ Below w1.heap.size w1 wr) (fun _ i _ _ => n - (intOf i).toNat)
  case atStart => exact ⟨0, Nat.zero_le _, rfl, rfl, Below.refl _ _⟩
  case round =>
    obtain ⟨k, hk, rfl, rfl, hbel⟩ := hrel
    have hes := encS_size (stripL (xs.take k))
    have hsl := Nat.le_trans (stripL_len (xs.take k)) (by rw [List.length_take]; exact Nat.min_le_left k _)
    have hes2 : (encS (stripL (xs.take k))).size ≤ 40000 := by omega
    obtain ⟨t, ht⟩ : ∃ t, encS (stripL (xs.take k)) = t := ⟨_, rfl⟩
    rw [ht] at hes2
    rw [ht]
    have HT := Lib.hid ht
    have HBL := Lib.hid hbel
    clear ht hes hsl
    by_cases hlt : k < n
    · have hnx := strip_more (xs := xs) (k := k) (by have := HN.out; omega)
      obtain ⟨b, o, rfl, hbw, hcl⟩ := HA.out (by omega)
      have c1 := (hbel.cell (p := ⟨b, o + k, none⟩) hbw).trans (hcl k hlt)
      have hpx : pointB (xs.getD k 0) = true := HP.out _ (by
        have : k < xs.length := by have := HN.out; omega
        simp [List.getD, this])
      obtain ⟨x, hx'⟩ : ∃ x, xs.getD k 0 = x := ⟨_, rfl⟩
      rw [hx'] at c1 hnx hpx
      have k0 : (0 : Int) ≤ (k : Int) := by omega
      have k1 : (k : Int) < (n : Int) := by omega
      have ci := cls_init x
      have ct := cls_term x
      have hcz := fun W => class_any x W
      unfold ClassP at hcz
      obtain ⟨z, hz⟩ : ∃ z, cls x = z := ⟨_, rfl⟩
      simp only [hz] at hcz
      rw [hz] at ci ct
      have HC := Lib.hid hcz
      clear hcl hx' hcz hz hbel hbw
      by_cases h4 : z = 4
      · have hxi := ci.1 h4
        rw [if_neg (by rw [hxi]; simp), List.append_nil] at hnx
        subst h4
        have HST := Lib.hid hnx
        clear hnx ci ct
        go_wp2_with fail
        refine (HC.out _).mono ?_
        rintro e w2 ⟨rfl, rfl⟩
        go_wp2
        go_roundw
        case rel => exact ⟨k + 1, by omega, by go_num, by rw [HST.out, HT.out], HBL.out⟩
        case measure => simp [intOf]; omega
      · have hni : initB x = false := by
          cases h : initB x
          · rfl
          · exact absurd (ci.2 h) h4
        by_cases h5 : z = 5
        · have hxt := (ct.1 h5).2
          rw [if_neg (by rw [hxt]; simp), List.append_nil] at hnx
          subst h5
          have HST := Lib.hid hnx
          clear hnx ci ct
          go_wp2_with fail
          refine (HC.out _).mono ?_
          rintro e w2 ⟨rfl, rfl⟩
          go_wp2
          go_roundw
          case rel => exact ⟨k + 1, by omega, by go_num, by rw [HST.out, HT.out], HBL.out⟩
          case measure => simp [intOf]; omega
        · have hnt : termB x = false := by
            cases h : termB x
            · rfl
            · exact absurd (ct.2 ⟨hni, h⟩) h5
          rw [if_pos (by rw [hni, hnt]; rfl)] at hnx
          have hb4 : (z != 4) = true := by simpa using h4
          have hb5 : (z != 5) = true := by simpa using h5
          have hp1 : 0 ≤ x ∧ x ≤ 1114111 := by simp [pointB] at hpx; omega
          have hnm : norm x = x.toNat := by unfold norm; rw [if_pos hpx]
          have hone := fun W => one_nat x hp1.1 hp1.2 W
          have hol := (U8.oneN_len x.toNat).2
          obtain ⟨y, hy⟩ : ∃ y : ByteArray, ⟨(U8.oneN x.toNat).toArray⟩ = y := ⟨_, rfl⟩
          have hys : y.size ≤ 4 := by rw [← hy, ← U8.size_len]; exact hol
          have hfin : encS (stripL (xs.take (k + 1))) = t ++ y := by rw [hnx, encS_snoc, HT.out, hnm, hy]
          simp only [hy] at hone
          have HO := Lib.hid hone
          have HF := Lib.hid hfin
          clear hnx ci ct hone hy hol hfin hnm
          go_wp2_with fail
          refine (HC.out _).mono ?_
          rintro e w2 ⟨rfl, rfl⟩
          go_wp2_with fail
          refine (HO.out _).mono ?_
          rintro e w3 ⟨rfl, hb3⟩
          have HB3 := Lib.hid (HBL.out.trans (hb3.mono HBL.out.size))
          clear hb3
          go_wp2
          go_roundw
          case rel => exact ⟨k + 1, by omega, by go_num, by rw [HF.out], HB3.out⟩
          case measure => simp [intOf]; omega
    · have hend : encS (stripL xs) = t := by
        have := HT.out
        rwa [List.take_of_length_le (by have := HN.out; omega)] at this
      have HE := Lib.hid hend
      have HBE := Lib.hid (HB1.out.trans (hbel.mono HB1.out.size))
      clear hend hbel
      go_wp2
      go_ret
      rw [HE.out]
      exact ⟨rfl, HBE.out⟩
end Go.Proofs.YtgefbagojghmeaaDoor
