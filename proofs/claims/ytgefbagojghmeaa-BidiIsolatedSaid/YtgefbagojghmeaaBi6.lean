/-
  calqueref23.strong, direction, inner and items.
-/
import Derived.Test.YtgefbagojghmeaaBi4
namespace Go.Proofs.Ytgefbagojghmeaa
open Go.RowKit

set_option maxRecDepth 100000 in
theorem rstrong_any (d e : Int) (h : 0 ≤ e) (h2 : e ≤ 1000000) (hd : d = 1 ∨ d = 2) (w : World) : Calls Try.prog 55 #[.int .i64 e, .int .i64 d] w fun x w' => x = .returned (.int .i64 (strong e d)) ∧ w = w' := by
  obtain ⟨r, hr⟩ : ∃ r, strong e d = r := ⟨_, rfl⟩
  rw [hr]
  unfold strong at hr
  have e1 : e.tmod 2 = e % 2 := Int.tmod_eq_emod_of_nonneg h
  rcases mod_two e with h0 | h0 <;> rcases hd with rfl | rfl
  · rw [h0] at e1 hr
    rw [if_pos (by decide)] at hr
    subst hr
    clear h0
    go_enter Try.func55, Try.ntmps55
    go_wp2
    go_ret
    exact ⟨rfl, rfl⟩
  · rw [h0] at e1 hr
    rw [if_neg (by decide)] at hr
    subst hr
    clear h0
    go_enter Try.func55, Try.ntmps55
    go_wp2
    go_ret
    exact ⟨rfl, rfl⟩
  · rw [h0] at e1 hr
    rw [if_neg (by decide)] at hr
    subst hr
    clear h0
    go_enter Try.func55, Try.ntmps55
    go_wp2
    go_ret
    exact ⟨rfl, rfl⟩
  · rw [h0] at e1 hr
    rw [if_pos (by decide)] at hr
    subst hr
    clear h0
    go_enter Try.func55, Try.ntmps55
    go_wp2
    go_ret
    exact ⟨rfl, rfl⟩

theorem cls_cases (c : Int) : (cls c = 4 ∧ initB c = true ∧ bcl c = 0) ∨ (cls c = 5 ∧ initB c = false ∧ bcl c = 0) ∨ (cls c = bcl c ∧ initB c = false ∧ 0 ≤ cls c ∧ cls c ≤ 3) := by
  by_cases h4 : cls c = 4
  · have := (cls_init c).1 h4
    exact .inl ⟨h4, this, bcl_init this⟩
  · have hi : initB c = false := by
      cases h : initB c with
      | false => rfl
      | true => exact absurd ((cls_init c).2 h) h4
    by_cases h5 : cls c = 5
    · exact .inr (.inl ⟨h5, hi, bcl_term h5⟩)
    · have := cls_bcl h4 h5
      have hr := bcl_range c
      exact .inr (.inr ⟨this.symm, hi, by omega, by omega⟩)
set_option maxRecDepth 100000 in
set_option maxHeartbeats 1000000 in
theorem rdirection_any (v : Value) (xs : List Int) (B a b : Nat) (w : World) (hv : IsInts w B v xs) (hx : xs.length ≤ 1000000) (ha : a ≤ xs.length + 1) (hb : b ≤ xs.length) :
    Calls Try.prog 43 #[v, .int .i64 a, .int .i64 b] w fun e w' => e = .returned (.int .i64 (dirV xs a b)) ∧ w = w' := by
  have hmt := fun k hk hi => match_any v xs B k w hv hx hk hi
  obtain ⟨ao, ca, rfl, hc⟩ := hv
  obtain ⟨n, hn⟩ : ∃ n, n = xs.length := ⟨_, rfl⟩
  rw [← hn] at hc hx hb ha hmt
  rw [← hn]
  unfold MatchP at hmt
  obtain ⟨R, hR⟩ : ∃ R, dirV xs a b = R := ⟨_, rfl⟩
  rw [hR]
  unfold dirV at hR
  have HA := Lib.hid hc
  have HN := Lib.hid hn
  have HR := Lib.hid hR
  have HM := Lib.hid hmt
  clear hc hn hR hmt
  go_enter Try.func43, Try.ntmps43
  go_wp2
  go_loopw [7] (fun i wr => ∃ k : Nat, a ≤ k ∧ k ≤ n + 1 ∧ i = .int .i64 k ∧ R = dirI ((items xs k b).map fun x => x.2.2) ∧ w = wr) (fun i _ => n + 1 - (intOf i).toNat)
  case atStart => exact ⟨a, Nat.le_refl _, ha, rfl, HR.out.symm, rfl⟩
  case round =>
    obtain ⟨k, hk0, hk, rfl, hm, rfl⟩ := hrel
    have k0 : (0 : Int) ≤ (k : Int) := by omega
    by_cases hlt : k < b
    · obtain ⟨b0, o, rfl, _, hcl⟩ := HA.out (by omega)
      have c1 := hcl k (by omega)
      have k1 : (k : Int) < (b : Int) := by omega
      have k2 : (k : Int) < (n : Int) := by omega
      have hit := items_init (xs := xs) (a := k) (b := b) hlt (by have := HN.out; omega)
      have hlf := items_leaf (xs := xs) (a := k) (b := b) hlt (by have := HN.out; omega)
      have hge := match_ge (xs := xs) (k := k) (by have := HN.out; omega)
      have hmk := HM.out k (by omega)
      obtain ⟨x, hx'⟩ : ∃ x, xs.getD k 0 = x := ⟨_, rfl⟩
      rw [hx'] at c1 hit hlf hge hmk
      have hcz := class_any x w
      unfold ClassP at hcz
      have hcc := cls_cases x
      obtain ⟨z, hz⟩ : ∃ z, cls x = z := ⟨_, rfl⟩
      rw [hz] at hcz hcc
      have HC := Lib.hid hcz
      clear hcl hx' hcz hz
      rcases hcc with ⟨rfl, h1, h2⟩ | ⟨rfl, h1, h2⟩ | ⟨h0, h1, h2, h3⟩
      · have hmk := hmk h1
        obtain ⟨g1, g2⟩ := hge h1
        rw [hit h1] at hm
        obtain ⟨M, hM⟩ : ∃ M, matchV xs k = M := ⟨_, rfl⟩
        rw [hM] at hmk hm g1 g2
        have HMK := Lib.hid hmk
        have HM2 := Lib.hid hm
        have g2 : M ≤ n := by have := HN.out; omega
        clear hit hlf hge hmk hm h1 h2 hM
        go_wp2_with fail
        refine (HC.out).mono ?_
        rintro e wq ⟨rfl, rfl⟩
        go_wp2_with fail
        refine (HMK.out).mono ?_
        rintro e wq ⟨rfl, rfl⟩
        go_wp2
        go_roundw
        case rel => exact ⟨M + 1, by omega, by omega, by go_num, HM2.out, trivial⟩
        case measure => simp [intOf]; omega
      · rw [hlf (by simp [h1]), h2] at hm
        have HM2 := Lib.hid hm
        clear hit hlf hge hmk hm h1 h2
        go_wp2_with fail
        refine (HC.out).mono ?_
        rintro e wq ⟨rfl, rfl⟩
        go_wp2
        go_roundw
        case rel => exact ⟨k + 1, by omega, by omega, by go_num, HM2.out, trivial⟩
        case measure => simp [intOf]; omega
      · rw [hlf (by simp [h1]), List.map_cons, dirI, ← h0] at hm
        by_cases hz1 : z = 1
        · subst hz1
          replace hm : R = 1 := by rw [hm]; rfl
          subst hm
          clear hit hlf hge hmk h1 h2 h3 h0
          go_wp2_with fail
          refine (HC.out).mono ?_
          rintro e wq ⟨rfl, rfl⟩
          go_wp2
          go_ret
          exact ⟨rfl, rfl⟩
        · by_cases hz2 : z = 2
          · subst hz2
            replace hm : R = 2 := by rw [hm]; rfl
            subst hm
            clear hit hlf hge hmk h1 h2 h3 h0 hz1
            go_wp2_with fail
            refine (HC.out).mono ?_
            rintro e wq ⟨rfl, rfl⟩
            go_wp2
            go_ret
            exact ⟨rfl, rfl⟩
          · rw [if_neg (by dsimp only; omega)] at hm
            have HM2 := Lib.hid hm
            have z4 : ¬ z = 4 := by omega
            clear hit hlf hge hmk hm h1 h2 h3 h0
            go_wp2_with fail
            refine (HC.out).mono ?_
            rintro e wq ⟨rfl, rfl⟩
            go_wp2
            go_roundw
            case rel => exact ⟨k + 1, by omega, by omega, by go_num, HM2.out, trivial⟩
            case measure => simp [intOf]; omega
    · rw [items_nil (by omega)] at hm
      have hm : R = 0 := hm
      subst hm
      go_wp2
      go_ret
      exact ⟨rfl, rfl⟩
set_option maxRecDepth 100000 in
theorem refdirection_any (s : ByteArray) (hs : s.size ≤ 10000) (w : World) : Calls Try.prog 22 #[.string s] w fun e w' => e = .returned (.int .i64 (dirV (ints (U8.els s.data.toList)) 0 (ints (U8.els s.data.toList)).length)) ∧ Below w.heap.size w w' := by
  have hle := U8.els_len s.data.toList
  rw [U8.size_len] at hle
  have hli : (ints (U8.els s.data.toList)).length ≤ 10000 := by unfold ints; rw [List.length_map]; omega
  have hd := refdecode_any s (by omega)
  unfold DecP at hd
  obtain ⟨xs, hxs⟩ : ∃ xs, ints (U8.els s.data.toList) = xs := ⟨_, rfl⟩
  rw [hxs] at hd hli
  rw [hxs]
  have HD := Lib.hid hd
  clear hd hxs
  go_enter Try.func22, Try.ntmps22
  go_wp2_with fail
  refine (HD.out _).mono ?_
  rintro e w1 ⟨v, rfl, ho, hb1⟩
  have hii := IsInts.of_own ho
  have hr := rdirection_any v xs _ 0 xs.length w1 hii (by omega) (by omega) (Nat.le_refl _)
  obtain ⟨ao, ca, rfl, _⟩ := hii
  have HR := Lib.hid hr
  have HB1 := Lib.hid hb1
  clear hr hb1 ho
  go_wp2_with fail
  refine HR.out.mono ?_
  rintro e w2 ⟨rfl, rfl⟩
  go_wp2
  go_ret
  exact ⟨rfl, HB1.out⟩

set_option maxRecDepth 100000 in
theorem inner_any (v : Value) (xs : List Int) (B a e : Nat) (w : World) (hv : IsInts w B v xs) (hx : xs.length ≤ 1000000) (ha : a < xs.length) (hi : initB (xs.getD a 0) = true) (he : e ≤ 1000) :
    Calls Try.prog 56 #[v, .int .i64 a, .int .i64 e] w fun x w' => x = .returned (.int .i64 (inner xs a e)) ∧ w = w' := by
  have hmk := match_any v xs B a w hv hx ha hi
  obtain ⟨g1, g2⟩ := match_ge ha hi
  have hdr := rdirection_any v xs B (a + 1) (matchV xs a) w hv hx (by omega) g2
  unfold MatchP at hmk
  obtain ⟨ao, ca, rfl, hc⟩ := hv
  obtain ⟨b, o, rfl, hB, hc⟩ := hc (by omega)
  have c1 := hc a ha
  obtain ⟨n, hn⟩ : ∃ n, n = xs.length := ⟨_, rfl⟩
  rw [← hn] at hmk hdr ha hx
  rw [← hn]
  obtain ⟨r, hr⟩ : ∃ r, inner xs a e = r := ⟨_, rfl⟩
  rw [hr]
  unfold inner at hr
  obtain ⟨M, hM⟩ : ∃ M, matchV xs a = M := ⟨_, rfl⟩
  rw [hM] at hmk hdr hr
  obtain ⟨D, hD⟩ : ∃ D, dirV xs (a + 1) M = D := ⟨_, rfl⟩
  rw [hD] at hdr hr
  obtain ⟨x, hx'⟩ : ∃ x, xs.getD a 0 = x := ⟨_, rfl⟩
  rw [hx'] at c1 hr
  have HMK := Lib.hid hmk
  have hdr' : Calls Try.prog 43 #[.slice (some ⟨b, o, none⟩) n ca, .int .i64 ((a : Int) + 1), .int .i64 M] w fun e w' => e = .returned (.int .i64 D) ∧ w = w' := by
    have e1 : ((a + 1 : Nat) : Int) = (a : Int) + 1 := by omega
    rw [← e1]
    exact hdr
  have HDR := Lib.hid hdr'
  have a0 : (0 : Int) ≤ (a : Int) := by omega
  have a1 : (a : Int) < (n : Int) := by omega
  have e0 : (0 : Int) ≤ (e : Int) := by omega
  have e1 : ((e : Int) + 1).tmod 2 = ((e : Int) + 1) % 2 := Int.tmod_eq_emod_of_nonneg (by omega)
  clear hmk hdr hdr' hc hM hD hx' hi hn g1 g2
  rcases mod_two ((e : Int) + 1) with h0 | h0
  · rw [h0] at e1
    by_cases h5 : x = 8295
    · have hr : (e : Int) + 2 = r := by rw [if_pos (.inl h5)] at hr; omega
      subst hr
      subst h5
      clear h0
      go_enter Try.func56, Try.ntmps56
      go_wp2
      go_ret
      exact ⟨ret_int (by omega), rfl⟩
    · by_cases h6 : x = 8296
      · by_cases hD2 : D = 2
        · have hr : (e : Int) + 2 = r := by rw [if_pos (.inr ⟨h6, hD2⟩)] at hr; omega
          subst hr
          subst h6
          subst hD2
          clear h0
          go_enter Try.func56, Try.ntmps56
          go_wp2_with fail
          refine (HMK.out).mono ?_
          rintro e wq ⟨rfl, rfl⟩
          go_wp2_with fail
          refine (HDR.out).mono ?_
          rintro e wq ⟨rfl, rfl⟩
          go_wp2
          go_ret
          exact ⟨ret_int (by omega), rfl⟩
        · have hr : (e : Int) + 1 = r := by rw [if_neg (by omega)] at hr; omega
          subst hr
          subst h6
          have hb : (D == 2) = false := by simp [hD2]
          clear h0
          go_enter Try.func56, Try.ntmps56
          go_wp2_with fail
          refine (HMK.out).mono ?_
          rintro e wq ⟨rfl, rfl⟩
          go_wp2_with fail
          refine (HDR.out).mono ?_
          rintro e wq ⟨rfl, rfl⟩
          go_wp2
          go_ret
          exact ⟨rfl, rfl⟩
      · have hr : (e : Int) + 1 = r := by rw [if_neg (by omega)] at hr; omega
        subst hr
        have hb5 : (x == 8295) = false := by simp [h5]
        have hb6 : (x == 8296) = false := by simp [h6]
        clear h0
        go_enter Try.func56, Try.ntmps56
        go_wp2
        go_ret
        exact ⟨rfl, rfl⟩
  · rw [h0] at e1
    by_cases h5 : x = 8295
    · have hr : (e : Int) + 1 = r := by rw [if_pos (.inl h5)] at hr; omega
      subst hr
      subst h5
      clear h0
      go_enter Try.func56, Try.ntmps56
      go_wp2
      go_ret
      exact ⟨rfl, rfl⟩
    · by_cases h6 : x = 8296
      · by_cases hD2 : D = 2
        · have hr : (e : Int) + 1 = r := by rw [if_pos (.inr ⟨h6, hD2⟩)] at hr; omega
          subst hr
          subst h6
          subst hD2
          clear h0
          go_enter Try.func56, Try.ntmps56
          go_wp2_with fail
          refine (HMK.out).mono ?_
          rintro e wq ⟨rfl, rfl⟩
          go_wp2_with fail
          refine (HDR.out).mono ?_
          rintro e wq ⟨rfl, rfl⟩
          go_wp2
          go_ret
          exact ⟨rfl, rfl⟩
        · have hr : (e : Int) + 2 = r := by rw [if_neg (by omega)] at hr; omega
          subst hr
          subst h6
          have hb : (D == 2) = false := by simp [hD2]
          clear h0
          go_enter Try.func56, Try.ntmps56
          go_wp2_with fail
          refine (HMK.out).mono ?_
          rintro e wq ⟨rfl, rfl⟩
          go_wp2_with fail
          refine (HDR.out).mono ?_
          rintro e wq ⟨rfl, rfl⟩
          go_wp2
          go_ret
          exact ⟨ret_int (by omega), rfl⟩
      · have hr : (e : Int) + 2 = r := by rw [if_neg (by omega)] at hr; omega
        subst hr
        have hb5 : (x == 8295) = false := by simp [h5]
        have hb6 : (x == 8296) = false := by simp [h6]
        clear h0
        go_enter Try.func56, Try.ntmps56
        go_wp2
        go_ret
        exact ⟨ret_int (by omega), rfl⟩
end Go.Proofs.Ytgefbagojghmeaa
