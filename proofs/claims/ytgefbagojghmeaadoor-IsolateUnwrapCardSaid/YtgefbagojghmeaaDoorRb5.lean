/-
  calqueref24.Balance and Wrap.
-/
import Derived.Test.YtgefbagojghmeaaDoorRb4
namespace Go.Proofs.YtgefbagojghmeaaDoor
open Go.RowKit

theorem encS_close (xs : List Int) : encS (xs ++ [8297]) = encS xs ++ ⟨#[226, 129, 169]⟩ := by
  rw [encS_snoc]
  rfl

set_option maxRecDepth 100000 in
set_option maxHeartbeats 1000000 in
theorem refbalance_any (s : ByteArray) (hs : s.size ≤ 10000) (w : World) : Calls Tryd.prog 13 #[.string s] w (BalanceP (ints (U8.els s.data.toList)) w) := by
  obtain ⟨i0, hi, hz0, hz1, hz2⟩ := info_parts Tryd.infoBool
  have hle := U8.els_len s.data.toList
  rw [U8.size_len] at hle
  have hli : (ints (U8.els s.data.toList)).length ≤ 10000 := by unfold ints; rw [List.length_map]; omega
  have hd := refdecode_any s (by omega)
  have hpt := els_points s
  unfold DecP at hd
  obtain ⟨xs, hxs⟩ : ∃ xs, ints (U8.els s.data.toList) = xs := ⟨_, rfl⟩
  rw [hxs] at hd hli hpt
  rw [hxs]
  obtain ⟨n, hn⟩ : ∃ n, n = xs.length := ⟨_, rfl⟩
  rw [← hn] at hli
  have HN := Lib.hid hn
  have HD := Lib.hid hd
  have HP := Lib.hid hpt
  clear hd hxs hn hpt hle
  go_enter Tryd.func13, Tryd.ntmps13
  go_wp2_with fail
  refine (HD.out _).mono ?_
  rintro e w1 ⟨v, rfl, ho, hb1⟩
  have hii := IsInts.of_own ho
  obtain ⟨ao, ca, rfl, ha⟩ := hii
  rw [← HN.out] at ha
  rw [← HN.out]
  have HA := Lib.hid ha
  have HB1 := Lib.hid hb1
  clear ha hb1 ho
  go_wp2
  go_loopw [4, 5, 6, 7] (fun t o kp i wr => ∃ k : Nat, k ≤ n ∧ i = .int .i64 k ∧ kp = .int .i64 ((balRun (xs.take k)).2.1 : Nat) ∧ t = .string (encS (balRun (xs.take k)).2.2) ∧ wr.ownsRow w1.heap.size 4 1 o (balRun (xs.take k)).1.length ((balRun (xs.take k)).1.map Value.bool) ∧ Below w1.heap.size w1 wr) (fun _ _ _ i _ => n - (intOf i).toNat)
  case atStart => exact ⟨0, Nat.zero_le _, rfl, rfl, rfl, World.ownsRow_nil _ _ _ _, Below.refl _ _⟩
  case round =>
    obtain ⟨k, hk, rfl, rfl, rfl, hown, hbel⟩ := hrel
    have hok := balRun_ok (xs.take k)
    rw [List.length_take] at hok
    obtain ⟨⟨op, kp, out⟩, hst⟩ : ∃ st, balRun (xs.take k) = st := ⟨_, rfl⟩
    rw [hst] at hok hown
    rw [hst]
    dsimp only at hok hown ⊢
    obtain ⟨hk1, hk2, hk3, hk4⟩ := hok
    dsimp only at hk1 hk2 hk3 hk4
    have hk3 : op.length ≤ k := Nat.le_trans hk3 (Nat.min_le_left _ _)
    have hk4 : out.length ≤ k := Nat.le_trans hk4 (Nat.min_le_left _ _)
    have hes := encS_size out
    have hes2 : (encS out).size ≤ 40000 := by omega
    obtain ⟨t, ht⟩ : ∃ t, encS out = t := ⟨_, rfl⟩
    rw [ht] at hes2
    rw [ht]
    have HT := Lib.hid ht
    have HBE := Lib.hid hbel
    clear hes ht
    by_cases hlt : k < n
    · have hnx := balRun_more (xs := xs) (k := k) (by have := HN.out; omega)
      obtain ⟨b, o, rfl, hbw, hcl⟩ := HA.out (by omega)
      have c1 := (hbel.cell (p := ⟨b, o + k, none⟩) hbw).trans (hcl k hlt)
      have hcx := hcl k hlt
      have hpx : pointB (xs.getD k 0) = true := HP.out _ (by
        have : k < xs.length := by have := HN.out; omega
        simp [List.getD, this])
      obtain ⟨x, hx'⟩ : ∃ x, xs.getD k 0 = x := ⟨_, rfl⟩
      rw [hx'] at c1 hnx hpx hcx
      rw [hst] at hnx
      have k0 : (0 : Int) ≤ (k : Int) := by omega
      have k1 : (k : Int) < (n : Int) := by omega
      have ci := cls_init x
      have ct := cls_term x
      have hcz := fun W => class_any x W
      unfold ClassP at hcz
      obtain ⟨z, hz⟩ : ∃ z, cls x = z := ⟨_, rfl⟩
      simp only [hz] at hcz
      rw [hz] at ci ct
      have HC := Lib.hid hcz
      have hp1 : 0 ≤ x ∧ x ≤ 1114111 := by simp [pointB] at hpx; omega
      have hnm : norm x = x.toNat := by unfold norm; rw [if_pos hpx]
      have hone := fun W => one_nat x hp1.1 hp1.2 W
      have hol := (U8.oneN_len x.toNat).2
      obtain ⟨y1, hy⟩ : ∃ y : ByteArray, ⟨(U8.oneN x.toNat).toArray⟩ = y := ⟨_, rfl⟩
      have hys : y1.size ≤ 4 := by rw [← hy, ← U8.size_len]; exact hol
      have hfin : encS (out ++ [x]) = t ++ y1 := by rw [encS_snoc, HT.out, hnm, hy]
      simp only [hy] at hone
      have HO := Lib.hid hone
      have HF := Lib.hid hfin
      have HCL := Lib.hid (show ∀ w2, Below w1.heap.size w1 w2 → w2.cell? ⟨b, o + k, none⟩ = some (.int .i64 x) from fun w2 h => (h.cell (p := ⟨b, o + k, none⟩) hbw).trans hcx)
      clear hcl hx' hst hbw hbel hcx hcz hz hone hy hol hfin hnm hpx
      unfold balStep at hnx
      dsimp only at hnx
      by_cases h4 : z = 4
      · rw [if_pos (ci.1 h4)] at hnx
        subst h4
        clear ci ct
        by_cases h8 : kp < 8
        · rw [if_pos h8] at hnx
          have HST := Lib.hid hnx
          have k8 : (kp : Int) < 8 := by omega
          clear hnx
          go_wp2_with fail
          refine (HC.out _).mono ?_
          rintro e w2 ⟨rfl, rfl⟩
          go_wp2_with (at_builtin; first
            | (refine wpList_append_own _ rfl _ _ 33 rfl w1.heap.size 4 i0 (.bool false) 1 1 Tryd.underlying33 hi hz0 hz1 hz2 rfl (by decide) _ _ _ rfl (hown.alloc _) ⟨wr.heap.size, 0, none⟩ 1 1 [.bool true] rfl rfl (cell_one_new _ _ _) (by intro u hu; simp at hu; subst hu; rfl) (by unfold maxLen; omega) (by omega) (by have := HBE.out.size; simp; omega) ?_
               intro v' w3 hown' hgrow _
               have hg : (wr.alloc (.cells #[.bool true] 4)).grownBy w3 u5.ownBlock := hgrow
               have hbe3 := (HBE.out.alloc HBE.out.size _).grown hg (by have := HBE.out.size; simp; omega) (fun k e => (own_from hown k e))
               have c3 := HCL.out w3 hbe3
               have hown2 : w3.ownsRow w1.heap.size 4 1 v' (op ++ [true]).length ((op ++ [true]).map Value.bool) := by simpa using hown'))
          refine (HO.out _).mono ?_
          rintro e w4 ⟨rfl, hb4⟩
          have HB4 := Lib.hid (hbe3.trans (hb4.mono hbe3.size))
          have HW4 := Lib.hid (own_keep hown2 hb4)
          clear hb4
          go_wp2
          go_roundw
          case rel => exact ⟨k + 1, by omega, by go_num, by rw [HST.out]; rfl, by rw [HST.out, HF.out], by rw [HST.out]; exact HW4.out, HB4.out⟩
          case measure => simp [intOf]; omega
        · rw [if_neg h8] at hnx
          have HST := Lib.hid hnx
          have k8 : decide ((kp : Int) < 8) = false := by simp; omega
          clear hnx
          go_wp2_with fail
          refine (HC.out _).mono ?_
          rintro e w2 ⟨rfl, rfl⟩
          go_wp2_with (at_builtin; first
            | (refine wpList_append_own _ rfl _ _ 33 rfl w1.heap.size 4 i0 (.bool false) 1 1 Tryd.underlying33 hi hz0 hz1 hz2 rfl (by decide) _ _ _ rfl (hown.alloc _) ⟨wr.heap.size, 0, none⟩ 1 1 [.bool false] rfl rfl (cell_one_new _ _ _) (by intro u hu; simp at hu; subst hu; rfl) (by unfold maxLen; omega) (by omega) (by have := HBE.out.size; simp; omega) ?_
               intro v' w3 hown' hgrow _
               have hg : (wr.alloc (.cells #[.bool false] 4)).grownBy w3 u5.ownBlock := hgrow
               have hbe3 := (HBE.out.alloc HBE.out.size _).grown hg (by have := HBE.out.size; simp; omega) (fun k e => (own_from hown k e))
               have c3 := HCL.out w3 hbe3
               have hown2 : w3.ownsRow w1.heap.size 4 1 v' (op ++ [false]).length ((op ++ [false]).map Value.bool) := by simpa using hown'))
          go_roundw
          case rel => exact ⟨k + 1, by omega, by go_num, by rw [HST.out], by rw [HST.out, HT.out], by rw [HST.out]; exact hown2, hbe3⟩
          case measure => simp [intOf]; omega
      · have hni : ¬ initB x = true := fun h => h4 (ci.2 h)
        rw [if_neg hni] at hnx
        obtain ⟨ao2, cap2, rfl⟩ : ∃ ao2 cap2, u5 = .slice ao2 op.length cap2 := by
          rcases hown.2 with ⟨hv, h0⟩ | ⟨g, cap, cur, hv, _⟩
          · exact ⟨none, 0, by rw [hv, h0]⟩
          · exact ⟨_, _, hv⟩
        by_cases h5 : z = 5
        · rw [if_pos (ct.1 h5).2] at hnx
          subst h5
          clear ci ct hni
          by_cases hop : op = []
          · subst hop
            rw [if_pos rfl] at hnx
            have HST := Lib.hid hnx
            have HOW := Lib.hid hown
            clear hnx hown
            go_wp2_with fail
            refine (HC.out _).mono ?_
            rintro e w2 ⟨rfl, rfl⟩
            go_wp2
            go_roundw
            case rel => exact ⟨k + 1, by omega, by go_num, by rw [HST.out], by rw [HST.out, HT.out], by rw [HST.out]; exact HOW.out, HBE.out⟩
            case measure => simp [intOf]; omega
          · rw [if_neg hop] at hnx
            have hcl := count_last hop
            obtain ⟨ys, y, rfl⟩ : ∃ ys y, op = ys ++ [y] := ⟨_, _, (List.dropLast_concat_getLast hop).symm⟩
            rw [List.dropLast_concat, List.getLastD_concat] at hnx hcl
            obtain ⟨m, hm⟩ : ∃ m, m = ys.length := ⟨_, rfl⟩
            rw [List.length_append, List.length_singleton, ← hm] at hown hk3
            rw [List.length_append, List.length_singleton, ← hm]
            obtain ⟨g, rfl, c2⟩ := own_last hown (.bool y) (by rw [hm]; simp)
            have hless := own_less hown
            have hless2 : wr.ownsRow w1.heap.size 4 1 (.slice (some ⟨g, 0, none⟩) m cap2) ys.length (ys.map Value.bool) := by
              rw [← hm]; simpa using hless
            have HOW := Lib.hid hless2
            have hcap : m + 1 ≤ cap2 := by
              rcases hown.2 with ⟨hv, _⟩ | ⟨g', cap', cur, hv, _, _, hc, _⟩
              · cases hv
              · cases hv; exact hc
            have HM := Lib.hid hm
            have m0 : (0 : Int) ≤ (m : Int) := by omega
            clear hless hless2 hown hop hm
            cases y
            · rw [if_neg (by decide)] at hnx
              have HST := Lib.hid hnx
              clear hnx
              go_wp2_with fail
              refine (HC.out _).mono ?_
              rintro e w2 ⟨rfl, rfl⟩
              go_wp2
              go_roundw
              case rel => exact ⟨k + 1, by omega, by go_num, by rw [HST.out], by rw [HST.out, HT.out], by rw [HST.out]; exact HOW.out, HBE.out⟩
              case measure => simp [intOf]; omega
            · rw [if_pos rfl] at hnx hcl
              obtain ⟨q, rfl⟩ : ∃ q, kp = q + 1 := ⟨kp - 1, by omega⟩
              have HST := Lib.hid hnx
              rw [Nat.add_sub_cancel] at HST
              clear hnx hcl
              go_wp2_with fail
              refine (HC.out _).mono ?_
              rintro e w2 ⟨rfl, rfl⟩
              go_wp2_with fail
              refine (HO.out _).mono ?_
              rintro e w4 ⟨rfl, hb4⟩
              have HB4 := Lib.hid (HBE.out.trans (hb4.mono HBE.out.size))
              have HW4 := Lib.hid (own_keep HOW.out hb4)
              clear hb4
              go_wp2
              go_roundw
              case rel => exact ⟨k + 1, by omega, by go_num, by rw [HST.out]; all_goals go_num, by rw [HST.out, HF.out], by rw [HST.out]; exact HW4.out, HB4.out⟩
              case measure => simp [intOf]; omega
        · have hnt : ¬ termB x = true := fun e => h5 (ct.2 ⟨by simpa using hni, e⟩)
          rw [if_neg hnt] at hnx
          have HST := Lib.hid hnx
          have HOW := Lib.hid hown
          clear hnx hown hni hnt ci ct
          go_wp2_with fail
          refine (HC.out _).mono ?_
          rintro e w2 ⟨rfl, rfl⟩
          go_wp2_with fail
          refine (HO.out _).mono ?_
          rintro e w4 ⟨rfl, hb4⟩
          have HB4 := Lib.hid (HBE.out.trans (hb4.mono HBE.out.size))
          have HW4 := Lib.hid (own_keep HOW.out hb4)
          clear hb4
          go_wp2
          go_roundw
          case rel => exact ⟨k + 1, by omega, by go_num, by rw [HST.out]; all_goals rfl, by rw [HST.out, HF.out], by rw [HST.out]; exact HW4.out, HB4.out⟩
          case measure => simp [intOf]; omega
    · have hend : balRun xs = (op, kp, out) := by rwa [List.take_of_length_le (by have := HN.out; omega)] at hst
      have hres : bal xs = out ++ List.replicate kp 8297 := by unfold bal; rw [hend]
      have HRES := Lib.hid hres
      have k1 : (n : Int) ≤ (k : Int) := by omega
      have hou : encS out = t := HT.out
      have HOU := Lib.hid hou
      have HBF := Lib.hid (HB1.out.trans (hbel.mono HB1.out.size))
      clear hend hres hst hown hou hbel
      go_wp2
      go_loopw [4, 6] (fun t i wr' => ∃ j : Nat, j ≤ kp ∧ i = .int .i64 ((kp - j : Nat) : Int) ∧ t = .string (encS (out ++ List.replicate j 8297)) ∧ wr' = wr) (fun _ i _ => (intOf i).toNat)
      case atStart => exact ⟨0, Nat.zero_le _, rfl, by rw [List.replicate_zero, List.append_nil, HOU.out], rfl⟩
      case round =>
        obtain ⟨j, hj, rfl, rfl, rfl⟩ := hrel
        have hlj := encS_size (out ++ List.replicate j 8297)
        rw [List.length_append, List.length_replicate] at hlj
        have hcl := encS_close (out ++ List.replicate j 8297)
        rw [List.append_assoc, ← List.replicate_succ'] at hcl
        obtain ⟨u, hu⟩ : ∃ u, encS (out ++ List.replicate j 8297) = u := ⟨_, rfl⟩
        rw [hu] at hlj hcl
        rw [hu]
        have hus : u.size ≤ 50000 := by omega
        obtain ⟨d, hd⟩ : ∃ d, d = kp - j := ⟨_, rfl⟩
        rw [← hd]
        by_cases hlt : j < kp
        · obtain ⟨q, rfl⟩ : ∃ q, d = q + 1 := ⟨d - 1, by omega⟩
          have d0 : (0 : Int) ≤ (q : Int) := by omega
          have d1 : (q : Int) ≤ 8 := by omega
          have HCL := Lib.hid hcl
          have HDD := Lib.hid hd
          clear hcl hu hlj hd
          go_wp2
          go_roundw
          case rel => exact ⟨j + 1, by omega, by rw [show kp - (j + 1) = q by have := HDD.out; omega], by rw [HCL.out], trivial⟩
          case measure => simp [intOf]
        · have d0 : d = 0 := by omega
          have hjk : j = kp := by omega
          subst hjk
          subst d0
          rw [← HRES.out] at hu
          have HU := Lib.hid hu
          clear hcl hlj hd hu
          go_wp2
          go_ret
          unfold BalanceP
          rw [HU.out]
          exact ⟨rfl, HBF.out⟩
end Go.Proofs.YtgefbagojghmeaaDoor
