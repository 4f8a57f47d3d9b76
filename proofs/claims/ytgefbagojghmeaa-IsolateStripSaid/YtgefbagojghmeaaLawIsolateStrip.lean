/-
  The law IsolateStrip: the bare form is valid and has no initiators and terminators; it is the string itself exactly if this is valid and has none.
-/
import Derived.Test.YtgefbagojghmeaaIs5
import Derived.Test.YtgefbagojghmeaaU8W15
namespace Go.Proofs.Ytgefbagojghmeaa
open Go.RowKit

theorem encS_valid (xs : List Int) : Lib.validD (encS xs).data.toList = true := by
  unfold encS
  exact U8.valid_encN _ (fun n hn => by obtain ⟨x, _, rfl⟩ := List.mem_map.1 hn; exact norm_pt x)
theorem encS_dec (xs : List Int) (h : ∀ x ∈ xs, pointB x = true) : ints (U8.els (encS xs).data.toList) = xs := by
  unfold encS
  have e : U8.els (U8.encN (xs.map norm)).toArray.toList = xs.map norm := U8.els_encN _ (fun n hn => by obtain ⟨x, _, rfl⟩ := List.mem_map.1 hn; exact norm_pt x)
  rw [e]
  unfold ints
  rw [List.map_map]
  refine (List.map_congr_left (g := id) (fun x hx => ?_)).trans (List.map_id _)
  have hp := h x hx
  show ((norm x : Nat) : Int) = x
  unfold norm
  rw [if_pos hp]
  simp [pointB] at hp
  omega
theorem els_points (s : ByteArray) : ∀ x ∈ ints (U8.els s.data.toList), pointB x = true := by
  intro x hx
  unfold ints at hx
  obtain ⟨n, hn, rfl⟩ := List.mem_map.1 hx
  have := U8.els_pt _ _ (Nat.le_refl _) n hn
  obtain ⟨h1, h2⟩ := this
  simp [pointB]
  omega
def noneB (c : Int) : Bool := !initB c && !termB c
theorem cls_none (c : Int) : noneB c = (decide (cls c ≠ 4) && decide (cls c ≠ 5)) := by
  rw [Bool.eq_iff_iff]
  unfold noneB initB termB cls
  simp only [Bool.and_eq_true, Bool.not_eq_true', decide_eq_false_iff_not, decide_eq_true_eq, ne_eq]
  repeat' split
  all_goals omega
theorem strip_same (s : ByteArray) : ((encS (stripL (ints (U8.els s.data.toList)))).toList == s.toList) = ((ints (U8.els s.data.toList)).all noneB && Lib.validD s.data.toList) := by
  obtain ⟨xs, hxs⟩ : ∃ xs, ints (U8.els s.data.toList) = xs := ⟨_, rfl⟩
  have hp := els_points s
  have hv := valid_eq s
  rw [hxs] at hv hp ⊢
  rw [Bool.eq_iff_iff, beq_iff_eq, ByteArray.toList_eq, ByteArray.toList_eq, Bool.and_eq_true]
  rw [Bool.eq_iff_iff, beq_iff_eq, ByteArray.toList_eq, ByteArray.toList_eq] at hv
  constructor
  · intro h
    have hl : stripL xs = xs := by
      have h1 := encS_dec (stripL xs) (fun x hx => hp x ((List.mem_filter.1 hx).1))
      rw [h, hxs] at h1
      exact h1.symm
    have ha : xs.all noneB = true := by
      rw [List.all_eq_true]
      intro x hx
      rw [← hl] at hx
      exact (List.mem_filter.1 hx).2
    rw [hl] at h
    exact ⟨ha, hv.1 h⟩
  · rintro ⟨ha, hb⟩
    have hl : stripL xs = xs := by
      unfold stripL
      rw [List.filter_eq_self]
      intro x hx
      exact List.all_eq_true.1 ha x hx
    rw [hl]
    exact hv.2 hb
theorem rd_none (n : Nat) : ∀ (ys : List Int) (x : List Int × List Nat × Nat), (∀ c ∈ ys, noneB c = true) → ((ys.foldl (rdStep n) x).2.2 = x.2.2)
  | [], _, _ => rfl
  | c :: ys, x, h => by
    have hc := h c (by simp)
    simp [noneB] at hc
    rw [List.foldl_cons, rd_none n ys _ (fun d hd => h d (by simp [hd]))]
    unfold rdStep
    rw [if_neg (by simp [hc.1]), if_neg (by simp [hc.2])]
theorem strip_depth (s : ByteArray) : (rdRun (ints (U8.els (encS (stripL (ints (U8.els s.data.toList)))).data.toList)).length (ints (U8.els (encS (stripL (ints (U8.els s.data.toList)))).data.toList))).2.2 = 0 := by
  rw [encS_dec (stripL (ints (U8.els s.data.toList))) (fun x hx => els_points s x ((List.mem_filter.1 hx).1))]
  exact rd_none _ _ _ (fun c hc => (List.mem_filter.1 hc).2)
theorem all_noneB {xs : List Int} {k : Nat} (hk : k < xs.length) : (xs.take (k + 1)).all noneB = ((xs.take k).all noneB && noneB (xs.getD k 0)) := by
  rw [take_more hk, List.all_append]; simp

set_option maxRecDepth 100000 in
set_option maxHeartbeats 1000000 in
theorem law_IsolateStrip (s : ByteArray) (hs : s.size ≤ maxLen) (w : World) : Calls Try.prog 3 #[.string s] w (TrueP w) := by
  unfold maxLen at hs
  by_cases hl : 300 < s.size
  · go_enter Try.func3, Try.ntmps3
    go_wp2_with fail
    refine (awake24_any _).mono ?_
    rintro e w1 ⟨rfl, hb1⟩
    have HB1 := Lib.hid hb1
    clear hb1
    go_wp2_with fail
    refine (awake24_any _).mono ?_
    rintro e w2 ⟨rfl, hb2⟩
    have HB2 := Lib.hid (HB1.out.trans (hb2.mono HB1.out.size))
    clear hb2
    go_wp2
    go_ret
    exact ⟨rfl, HB2.out⟩
  · have hle := U8.els_len s.data.toList
    rw [U8.size_len] at hle
    have hli : (ints (U8.els s.data.toList)).length ≤ 300 := by unfold ints; rw [List.length_map]; omega
    have hst := strip_any s (by omega)
    have hd1 := refdecode_any s (by omega)
    have hv := refvalid_any s (by omega)
    have hsame := strip_same s
    have hdep := strip_depth s
    have hsz := encS_size (stripL (ints (U8.els s.data.toList)))
    have hsl := stripL_len (ints (U8.els s.data.toList))
    have hval := encS_valid (stripL (ints (U8.els s.data.toList)))
    unfold StripP at hst
    unfold DecP at hd1
    unfold ValP at hv
    obtain ⟨xs, hxs⟩ : ∃ xs, ints (U8.els s.data.toList) = xs := ⟨_, rfl⟩
    rw [hxs] at hst hd1 hsame hdep hsz hsl hval hli
    obtain ⟨t, ht⟩ : ∃ t, encS (stripL xs) = t := ⟨_, rfl⟩
    rw [ht] at hst hsame hdep hsz hval
    obtain ⟨b, hb⟩ : ∃ b, Lib.validD s.data.toList = b := ⟨_, rfl⟩
    rw [hb] at hv hsame
    have hvt := refvalid_any t (by omega)
    unfold ValP at hvt
    rw [hval] at hvt
    have hdt := depth_any t (by omega)
    unfold DepthP at hdt
    rw [hdep] at hdt
    obtain ⟨n, hn⟩ : ∃ n, n = xs.length := ⟨_, rfl⟩
    rw [← hn] at hli
    have HN := Lib.hid hn
    have HST := Lib.hid hst
    have HD1 := Lib.hid hd1
    have HV := Lib.hid hv
    have HVT := Lib.hid hvt
    have HDT := Lib.hid hdt
    have HSAME := Lib.hid hsame
    clear hst hd1 hv hvt hdt hsame hdep hval hb ht hxs hn hsz hsl hle
    go_enter Try.func3, Try.ntmps3
    go_wp2_with fail
    refine (awake24_any _).mono ?_
    rintro e w1 ⟨rfl, hb1⟩
    have HB1 := Lib.hid hb1
    clear hb1
    go_wp2_with fail
    refine (HST.out _).mono ?_
    rintro e w2 ⟨rfl, hb2⟩
    have HB2 := Lib.hid (HB1.out.trans (hb2.mono HB1.out.size))
    clear hb2
    go_wp2_with fail
    refine (HD1.out _).mono ?_
    rintro e w3 ⟨v, rfl, ho, hb3⟩
    have hii := IsInts.of_own ho
    obtain ⟨ao, ca, rfl, ha⟩ := hii
    rw [← HN.out] at ha
    rw [← HN.out]
    have HA := Lib.hid ha
    have HB3 := Lib.hid (HB2.out.trans (hb3.mono HB2.out.size))
    clear hb3 ho ha
    go_wp2
    go_loopw [4, 6, 7, 20] (fun p _ _ i wr => ∃ k : Nat, k ≤ n ∧ i = .int .i64 k ∧ p = .bool ((xs.take k).all noneB) ∧ wr = w3) (fun _ _ _ i _ => n - (intOf i).toNat)
    case atStart => exact ⟨0, Nat.zero_le _, rfl, rfl, rfl⟩
    case round =>
      obtain ⟨k, hk, rfl, rfl, rfl⟩ := hrel
      obtain ⟨c, hc⟩ : ∃ c, (xs.take k).all noneB = c := ⟨_, rfl⟩
      rw [hc]
      by_cases hlt : k < n
      · have hnx := all_noneB (xs := xs) (k := k) (by have := HN.out; omega)
        obtain ⟨b0, o, rfl, hbw, hcl⟩ := HA.out (by have := HN.out; omega)
        have c1 := hcl k (by have := HN.out; omega)
        obtain ⟨x, hx'⟩ : ∃ x, xs.getD k 0 = x := ⟨_, rfl⟩
        rw [hx'] at c1 hnx
        rw [hc, cls_none] at hnx
        have k0 : (0 : Int) ≤ (k : Int) := by omega
        have k1 : (k : Int) < (n : Int) := by omega
        obtain ⟨z, hz⟩ : ∃ z, cls x = z := ⟨_, rfl⟩
        have hcz := class_any x wr
        unfold ClassP at hcz
        rw [hz] at hcz hnx
        have HC := Lib.hid hcz
        clear hcl hx' hc hbw hcz hz
        have hzz : z = 4 ∨ z = 5 ∨ (z ≠ 4 ∧ z ≠ 5) := by omega
        cases c <;> rcases hzz with rfl | rfl | ⟨hz4, hz5⟩
        all_goals
          have HNX := Lib.hid hnx
          clear hnx
          go_wp2_with fail
          refine HC.out.mono ?_
          rintro e w4 ⟨rfl, rfl⟩
          go_wp2
          go_roundw
          case rel => exact ⟨k + 1, by omega, by go_num, by rw [HNX.out]; simp [*], trivial⟩
          case measure => simp [intOf]; omega
      · have hend : xs.all noneB = c := by rwa [List.take_of_length_le (by have := HN.out; omega)] at hc
        have HE := Lib.hid hend
        have k1 : (n : Int) ≤ (k : Int) := by omega
        clear hend hc
        have hss := HSAME.out
        rw [HE.out] at hss
        cases c
        · rw [Bool.false_and] at hss
          go_wp2_with fail
          refine (HVT.out _).mono ?_
          rintro e w5 ⟨rfl, hb5⟩
          have HB5 := Lib.hid (HB3.out.trans (hb5.mono HB3.out.size))
          clear hb5
          go_wp2_with fail
          refine (HDT.out _).mono ?_
          rintro e w6 ⟨rfl, hb6⟩
          have HB6 := Lib.hid (HB5.out.trans (hb6.mono HB5.out.size))
          clear hb6
          go_wp2
          go_ret
          exact ⟨rfl, HB6.out⟩
        · rw [Bool.true_and] at hss
          go_wp2_with fail
          refine (HV.out _).mono ?_
          rintro e w4 ⟨rfl, hb4⟩
          have HB4 := Lib.hid (HB3.out.trans (hb4.mono HB3.out.size))
          clear hb4
          go_wp2_with fail
          refine (HVT.out _).mono ?_
          rintro e w5 ⟨rfl, hb5⟩
          have HB5 := Lib.hid (HB4.out.trans (hb5.mono HB4.out.size))
          clear hb5
          go_wp2_with fail
          refine (HDT.out _).mono ?_
          rintro e w6 ⟨rfl, hb6⟩
          have HB6 := Lib.hid (HB5.out.trans (hb6.mono HB5.out.size))
          clear hb6
          go_wp2
          go_ret
          exact ⟨rfl, HB6.out⟩
end Go.Proofs.Ytgefbagojghmeaa
