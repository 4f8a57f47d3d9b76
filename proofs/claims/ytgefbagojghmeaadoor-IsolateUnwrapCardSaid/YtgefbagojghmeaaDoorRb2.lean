/-
  isolate.Balanced and calqueref24.Balanced: valid, matched and not too deep.
-/
import Derived.Test.YtgefbagojghmeaaDoorRb1
import Derived.Test.YtgefbagojghmeaaDoorIs5
import Derived.Test.YtgefbagojghmeaaDoorU8W16
namespace Go.Proofs.YtgefbagojghmeaaDoor
open Go.RowKit

/-- A balanced string. -/
def balB (s : ByteArray) : Bool := cnt 0 (ints (U8.els s.data.toList)) && Lib.validD s.data.toList && decide (mh 0 (ints (U8.els s.data.toList)) ≤ 8)
def BalancedP (s : ByteArray) (w : World) (e : Ending) (w' : World) : Prop := e = .returned (.bool (balB s)) ∧ Below w.heap.size w w'

set_option maxRecDepth 100000 in
set_option maxHeartbeats 1000000 in
theorem balanced_any (s : ByteArray) (hs : s.size ≤ 10000) (w : World) (hT : Tabs w) : Calls Tryd.prog 9 #[.string s] w (BalancedP s w) := by
  have hle := U8.els_len s.data.toList
  rw [U8.size_len] at hle
  have hli : (ints (U8.els s.data.toList)).length ≤ 10000 := by unfold ints; rw [List.length_map]; omega
  have hd := decode_any s (by omega)
  have hv := fun W h => valid_any s (by omega) W h
  have hdp := depth_any s hs
  unfold DecP at hd
  unfold ValP at hv
  unfold DepthP at hdp
  unfold BalancedP balB
  obtain ⟨xs, hxs⟩ : ∃ xs, ints (U8.els s.data.toList) = xs := ⟨_, rfl⟩
  rw [hxs] at hd hli hdp
  rw [hxs]
  rw [rdRun_mh] at hdp
  obtain ⟨bv, hbv⟩ : ∃ b, Lib.validD s.data.toList = b := ⟨_, rfl⟩
  obtain ⟨R, hR⟩ : ∃ R, cnt 0 xs = R := ⟨_, rfl⟩
  obtain ⟨D, hD⟩ : ∃ D, mh 0 xs = D := ⟨_, rfl⟩
  have hv' : ∀ W, Tabs W → Calls Tryd.prog 24 #[.string s] W fun e w' => e = .returned (.bool bv) ∧ Below W.heap.size W w' := fun W h => by have := hv W h; rw [hbv] at this; exact this
  rw [hD] at hdp
  rw [hR, hbv, hD]
  obtain ⟨n, hn⟩ : ∃ n, n = xs.length := ⟨_, rfl⟩
  rw [← hn] at hli
  have HN := Lib.hid hn
  have HD := Lib.hid hd
  have HR := Lib.hid hR
  have HV := Lib.hid hv'
  have HDP := Lib.hid hdp
  have HT := Lib.hid hT
  clear hd hxs hn hR hle hv hv' hdp hT hD hbv
  go_enter Tryd.func9, Tryd.ntmps9
  go_wp2_with fail
  refine (HD.out _).mono ?_
  rintro e w1 ⟨v, rfl, ho, hb1⟩
  have hii := IsInts.of_own ho
  obtain ⟨ao, ca, rfl, ha⟩ := hii
  rw [← HN.out] at ha
  rw [← HN.out]
  have HA := Lib.hid ha
  have HB1 := Lib.hid hb1
  clear ha hb1 ho
  go_wp2
  go_loopw [3, 5, 9] (fun o _ i wr => ∃ k h : Nat, k ≤ n ∧ h ≤ k ∧ i = .int .i64 k ∧ o = .int .i64 h ∧ R = cnt h (xs.drop k) ∧ wr = w1) (fun _ _ i _ => n - (intOf i).toNat)
  case atStart => exact ⟨0, 0, Nat.zero_le _, Nat.le_refl _, rfl, rfl, HR.out.symm, rfl⟩
  case round =>
    obtain ⟨k, h, hk, hh, rfl, rfl, hm, rfl⟩ := hrel
    have h0 : (0 : Int) ≤ (h : Int) := by omega
    by_cases hlt : k < n
    · obtain ⟨b, o, rfl, _, hcl⟩ := HA.out (by omega)
      have c1 := hcl k hlt
      have hd := drop_one (xs := xs) (k := k) (by have := HN.out; omega)
      obtain ⟨x, hx'⟩ : ∃ x, xs.getD k 0 = x := ⟨_, rfl⟩
      rw [hx'] at c1 hd
      rw [hd, cnt] at hm
      have k0 : (0 : Int) ≤ (k : Int) := by omega
      have k1 : (k : Int) < (n : Int) := by omega
      clear hcl hx' hd
      by_cases hxi : initB x = true
      · rw [if_pos hxi] at hm
        have hx8 : x ≠ 8297 := by simp [initB] at hxi; omega
        have HM := Lib.hid hm
        clear hm
        go_wp2_with fail
        refine (init_any _ _).mono ?_
        rintro e w2 ⟨rfl, rfl⟩
        rw [hxi]
        go_wp2
        go_roundw
        case rel => exact ⟨k + 1, h + 1, by omega, by omega, by go_num, by go_num, HM.out, trivial⟩
        case measure => simp [intOf]; omega
      · have hxi0 : initB x = false := by simpa using hxi
        rw [if_neg hxi] at hm
        clear hxi
        by_cases hxt : x = 8297
        · have hxt' : termB x = true := by simp [termB, hxt]
          rw [if_pos hxt'] at hm
          subst hxt
          clear hxt'
          by_cases hq : h = 0
          · subst hq
            rw [if_pos rfl] at hm
            subst hm
            go_wp2_with fail
            refine (init_any _ _).mono ?_
            rintro e w2 ⟨rfl, rfl⟩
            rw [hxi0]
            go_wp2
            go_ret
            exact ⟨rfl, HB1.out⟩
          · rw [if_neg hq] at hm
            obtain ⟨q, rfl⟩ : ∃ q, h = q + 1 := ⟨h - 1, by omega⟩
            have HM := Lib.hid hm
            clear hm hq
            go_wp2_with fail
            refine (init_any _ _).mono ?_
            rintro e w2 ⟨rfl, rfl⟩
            rw [hxi0]
            go_wp2
            go_roundw
            case rel => exact ⟨k + 1, q, by omega, by omega, by go_num, by go_num, HM.out, trivial⟩
            case measure => simp [intOf]; omega
        · have hnt : ¬ termB x = true := by simp [termB, hxt]
          rw [if_neg hnt] at hm
          have HM := Lib.hid hm
          clear hm hnt
          go_wp2_with fail
          refine (init_any _ _).mono ?_
          rintro e w2 ⟨rfl, rfl⟩
          rw [hxi0]
          go_wp2
          go_roundw
          case rel => exact ⟨k + 1, h, by omega, by omega, by go_num, rfl, HM.out, trivial⟩
          case measure => simp [intOf]; omega
    · have hkn : k = n := by omega
      subst hkn
      have hd : xs.drop k = [] := List.drop_eq_nil_of_le (by have := HN.out; omega)
      rw [hd, cnt] at hm
      subst hm
      clear hd
      by_cases hz : h = 0
      · subst hz
        go_wp2_with fail
        refine (HV.out _ (HT.out.below HB1.out)).mono ?_
        rintro e w2 ⟨rfl, hb2⟩
        have HB2 := Lib.hid (HB1.out.trans (hb2.mono HB1.out.size))
        clear hb2
        cases bv
        · go_wp2
          go_ret
          exact ⟨rfl, HB2.out⟩
        · go_wp2_with fail
          refine (HDP.out _).mono ?_
          rintro e w3 ⟨rfl, hb3⟩
          have HB3 := Lib.hid (HB2.out.trans (hb3.mono HB2.out.size))
          clear hb3
          go_wp2
          go_ret
          refine ⟨ret_bool ?_, HB3.out⟩
          by_cases h8 : D ≤ 8 <;> simp [h8] <;> omega
      · go_wp2
        go_ret
        exact ⟨ret_bool (by simp [hz]), HB1.out⟩
end Go.Proofs.YtgefbagojghmeaaDoor
