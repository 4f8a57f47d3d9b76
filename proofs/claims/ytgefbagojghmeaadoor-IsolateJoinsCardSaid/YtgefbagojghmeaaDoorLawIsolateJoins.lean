/-
  The law IsolateJoins: balanced strings, one after the other, are balanced, and so is a wrapped form that is not too deep.
-/
import Derived.Test.YtgefbagojghmeaaDoorLawIsolateStable
namespace Go.Proofs.YtgefbagojghmeaaDoor
open Go.RowKit

theorem wrap_points {xs : List Int} (h : ∀ x ∈ xs, pointB x = true) : ∀ x ∈ wrapL xs, pointB x = true := by
  intro x hx
  unfold wrapL at hx
  rcases List.mem_append.1 hx with hx | hx
  · rcases List.mem_append.1 hx with hx | hx
    · simp at hx; subst hx; decide
    · exact bal_points h x hx
  · simp at hx; subst hx; decide
theorem join_ok (s t : ByteArray) : balB (balS s ++ balS t) = true := by
  have e : balS s ++ balS t = encS (bal (ints (U8.els s.data.toList)) ++ bal (ints (U8.els t.data.toList))) := by rw [encS_app]; rfl
  have hp : ∀ x ∈ bal (ints (U8.els s.data.toList)) ++ bal (ints (U8.els t.data.toList)), pointB x = true := by
    intro x hx
    rcases List.mem_append.1 hx with hx | hx
    · exact bal_points (els_points s) x hx
    · exact bal_points (els_points t) x hx
  obtain ⟨a1, a2⟩ := bal_cnt (ints (U8.els s.data.toList))
  obtain ⟨b1, b2⟩ := bal_cnt (ints (U8.els t.data.toList))
  obtain ⟨c1, c2⟩ := cnt_app _ (bal (ints (U8.els t.data.toList))) 0 a1
  rw [e]
  unfold balB
  rw [encS_dec _ hp, encS_valid, c1, c2, b1, decide_eq_true (by omega)]
  rfl
theorem wrap_ok (xs : List Int) (h : ∀ x ∈ xs, pointB x = true) : balB (encS (wrapL xs)) = decide (mh 0 (bal xs) < 8) := by
  unfold balB
  rw [encS_dec _ (wrap_points h), encS_valid]
  have e : wrapL xs = 8296 :: (bal xs ++ [8297]) := rfl
  have hi : initB 8296 = true := rfl
  obtain ⟨a1, a2⟩ := bal_cnt xs
  have hup : ∀ (l zs : List Int) (h : Nat), cnt h l = true → cnt (h + 1) (l ++ zs) = cnt 1 zs ∧ mh (h + 1) (l ++ zs) = max (mh h l + 1) (mh 1 zs) := by
    intro l zs
    induction l with
    | nil =>
      intro h hc
      have : h = 0 := by simpa [cnt] using hc
      subst this
      have := mh_ge zs 1
      exact ⟨rfl, by simp [mh]; omega⟩
    | cons c l ih =>
      intro h hc
      rw [cnt_cons] at hc
      rw [List.cons_append, cnt_cons, mh_cons, mh_cons]
      split at hc
      · rename_i hi
        rw [if_pos hi, if_pos hi, if_pos hi]
        exact ih _ hc
      · rename_i hi
        rw [if_neg hi, if_neg hi, if_neg hi]
        split at hc
        · rename_i ht
          rw [if_pos ht, if_pos ht, if_pos ht]
          split at hc
          · cases hc
          · rename_i h0
            obtain ⟨q, rfl⟩ : ∃ q, h = q + 1 := ⟨h - 1, by omega⟩
            rw [if_neg (by omega)]
            obtain ⟨h1, h2⟩ := ih _ hc
            exact ⟨h1, by rw [show q + 1 + 1 - 1 = q + 1 - 1 + 1 by omega, h2]; omega⟩
        · rename_i ht
          rw [if_neg ht, if_neg ht, if_neg ht]
          exact ih _ hc
  obtain ⟨c1, c2⟩ := hup (bal xs) [8297] 0 a1
  have hi : initB 8296 = true := rfl
  rw [e, cnt_cons, mh_cons, if_pos hi, if_pos hi, c1, c2]
  have d1 : cnt 1 [8297] = true := rfl
  have d2 : mh 1 [8297] = 1 := rfl
  rw [d1, d2]
  by_cases h8 : mh 0 (bal xs) < 8
  · rw [decide_eq_true h8, decide_eq_true (by omega)]; rfl
  · rw [decide_eq_false h8, decide_eq_false (by omega)]; rfl

set_option maxRecDepth 100000 in
set_option maxHeartbeats 1000000 in
theorem law_IsolateJoins (s t : ByteArray) (hs : s.size ≤ maxLen) (ht : t.size ≤ maxLen) (w : World) (hT : Tabs w) : Calls Tryd.prog 3 #[.string s, .string t] w (TrueP w) := by
  unfold maxLen at hs ht
  have HT := Lib.hid hT
  clear hT
  by_cases hl : 300 < s.size
  · go_enter Tryd.func3, Tryd.ntmps3
    go_wp2_with fail
    refine (awake24_any _).mono ?_
    rintro e w1 ⟨rfl, hb1⟩
    have HB1 := Lib.hid hb1
    clear hb1
    go_wp2_with fail
    refine (awake24_any _).mono ?_
    rintro e w2 ⟨rfl, hb2⟩
    have HB2 := Lib.hid (HB1.out.trans (hb2.mono HB1.out.size))
    clear hb2
    go_wp2
    go_ret
    exact ⟨rfl, HB2.out⟩
  by_cases hl2 : 300 < t.size
  · go_enter Tryd.func3, Tryd.ntmps3
    go_wp2_with fail
    refine (awake24_any _).mono ?_
    rintro e w1 ⟨rfl, hb1⟩
    have HB1 := Lib.hid hb1
    clear hb1
    go_wp2_with fail
    refine (awake24_any _).mono ?_
    rintro e w2 ⟨rfl, hb2⟩
    have HB2 := Lib.hid (HB1.out.trans (hb2.mono HB1.out.size))
    clear hb2
    go_wp2
    go_ret
    exact ⟨rfl, HB2.out⟩
  · have hz := balS_size s
    have hz2 := balS_size t
    have h1 := balance_any s (by omega)
    have h2 := balance_any t (by omega)
    have h3 := fun W h => balanced_any (balS s ++ balS t) (by rw [ByteArray.size_append]; omega) W h
    have h4 := wrap_any s (by omega)
    have hwz := encS_size (wrapL (ints (U8.els s.data.toList)))
    have hwl : (wrapL (ints (U8.els s.data.toList))).length ≤ s.size + 10 := by
      have h5 := bal_len (ints (U8.els s.data.toList))
      have h3 := U8.els_len s.data.toList
      rw [U8.size_len] at h3
      have h4 : (ints (U8.els s.data.toList)).length = (U8.els s.data.toList).length := by unfold ints; rw [List.length_map]
      unfold wrapL
      simp
      omega
    have h5 := fun W h => balanced_any (encS (wrapL (ints (U8.els s.data.toList)))) (by omega) W h
    have h6 := refdepth_any (balS s) (by omega)
    unfold BalancedP at h3 h5
    unfold BalanceP at h1 h2
    unfold WrapP at h4
    unfold RDepthP at h6
    rw [els_balS] at h6
    have h3' : ∀ W, Tabs W → Calls Tryd.prog 9 #[.string (balS s ++ balS t)] W fun e w' => e = .returned (.bool true) ∧ Below W.heap.size W w' := fun W h => by have := h3 W h; rw [join_ok] at this; exact this
    have h5' : ∀ W, Tabs W → Calls Tryd.prog 9 #[.string (encS (wrapL (ints (U8.els s.data.toList))))] W fun e w' => e = .returned (.bool (decide (mh 0 (bal (ints (U8.els s.data.toList))) < 8))) ∧ Below W.heap.size W w' := fun W h => by have := h5 W h; rw [wrap_ok _ (els_points s)] at this; exact this
    have e0 : encS (bal (ints (U8.els s.data.toList))) = balS s := rfl
    have e1 : encS (bal (ints (U8.els t.data.toList))) = balS t := rfl
    rw [e0] at h1
    rw [e1] at h2
    obtain ⟨a, ha⟩ : ∃ a, balS s = a := ⟨_, rfl⟩
    obtain ⟨b, hb⟩ : ∃ b, balS t = b := ⟨_, rfl⟩
    obtain ⟨u, hu⟩ : ∃ u, encS (wrapL (ints (U8.els s.data.toList))) = u := ⟨_, rfl⟩
    obtain ⟨D, hD⟩ : ∃ D, mh 0 (bal (ints (U8.els s.data.toList))) = D := ⟨_, rfl⟩
    simp only [ha, hb] at h1 h2 h3' h6 hz hz2
    rw [hu] at h4
    simp only [hu, hD] at h5'
    rw [hD] at h6
    have H1 := Lib.hid h1
    have H2 := Lib.hid h2
    have H3 := Lib.hid h3'
    have H4 := Lib.hid h4
    have H5 := Lib.hid h5'
    have H6 := Lib.hid h6
    clear h1 h2 h3 h3' h4 h5 h5' h6 ha hb hu hD e0 e1 hwz hwl
    go_enter Tryd.func3, Tryd.ntmps3
    go_wp2_with fail
    refine (awake24_any _).mono ?_
    rintro e w1 ⟨rfl, hb1⟩
    have HB1 := Lib.hid hb1
    clear hb1
    go_wp2_with fail
    refine (H1.out _).mono ?_
    rintro e w2 ⟨rfl, hb2⟩
    have HB2 := Lib.hid (HB1.out.trans (hb2.mono HB1.out.size))
    clear hb2
    go_wp2_with fail
    refine (H2.out _).mono ?_
    rintro e w3 ⟨rfl, hb3⟩
    have HB3 := Lib.hid (HB2.out.trans (hb3.mono HB2.out.size))
    clear hb3
    go_wp2_with fail
    refine (H3.out _ (HT.out.below HB3.out)).mono ?_
    rintro e w4 ⟨rfl, hb4⟩
    have HB4 := Lib.hid (HB3.out.trans (hb4.mono HB3.out.size))
    clear hb4
    go_wp2_with fail
    refine (H4.out _).mono ?_
    rintro e w5 ⟨rfl, hb5⟩
    have HB5 := Lib.hid (HB4.out.trans (hb5.mono HB4.out.size))
    clear hb5
    go_wp2_with fail
    refine (H5.out _ (HT.out.below HB5.out)).mono ?_
    rintro e w6 ⟨rfl, hb6⟩
    have HB6 := Lib.hid (HB5.out.trans (hb6.mono HB5.out.size))
    clear hb6
    go_wp2_with fail
    refine (H6.out _).mono ?_
    rintro e w7 ⟨rfl, hb7⟩
    have HB7 := Lib.hid (HB6.out.trans (hb7.mono HB6.out.size))
    clear hb7
    go_wp2
    go_ret
    refine ⟨ret_bool ?_, HB7.out⟩
    by_cases h8 : D < 8 <;> simp [h8] <;> omega
end Go.Proofs.YtgefbagojghmeaaDoor
