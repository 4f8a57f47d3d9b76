/-
  The law BidiPlain: text of one direction.
-/
import Derived.Test.YtgefbagojghmeaaOr5
namespace Go.Proofs.Ytgefbagojghmeaa
open Go.RowKit

def clL (x : Int) : Bool := decide (cls x = 1 ∨ cls x = 0)
def clR (x : Int) : Bool := decide (cls x = 2 ∨ cls x = 0)
theorem cl_bcl {x : Int} (h : cls x ≠ 4 ∧ cls x ≠ 5) : initB x = false ∧ termB x = false ∧ bcl x = cls x := by
  refine ⟨?_, ?_, cls_bcl h.1 h.2⟩
  · cases hi : initB x with
    | false => rfl
    | true => exact absurd ((cls_init x).2 hi) h.1
  · cases ht : termB x with
    | false => rfl
    | true =>
      cases hi : initB x with
      | true => exact absurd ((cls_init x).2 hi) h.1
      | false => exact absurd ((cls_term x).2 ⟨hi, ht⟩) h.2
theorem mh_flat : ∀ (xs : List Int), (∀ x ∈ xs, initB x = false ∧ termB x = false) → mh 0 xs = 0
  | [], _ => rfl
  | x :: xs, h => by
    obtain ⟨h1, h2⟩ := h x (List.mem_cons_self ..)
    rw [mh_cons, h1, h2]
    exact mh_flat xs fun y hy => h y (List.mem_cons_of_mem _ hy)
theorem lev_flat (e last : Int) (ho : strong e last = e) (hl : last = 1 ∨ last = 2) : ∀ (f : Nat) (xs : List Int), xs.length ≤ f → (∀ x ∈ xs, initB x = false ∧ (bcl x = last ∨ bcl x = 0)) → levI f e last xs = List.replicate xs.length e
  | f, [], _, _ => by rw [levI_nil]; rfl
  | 0, x :: xs, h, _ => by simp at h
  | f + 1, x :: xs, h, hx => by
    have h : xs.length ≤ f := by simpa using h
    obtain ⟨h1, h2⟩ := hx x (List.mem_cons_self ..)
    rw [levI, h1, if_neg (by decide), List.length_cons, List.replicate_succ]
    have hn : nl last (bcl x) = last := by
      unfold nl
      rcases h2 with h2 | h2 <;> rw [h2]
      · split <;> rfl
      · rw [if_neg (by decide)]
    rw [hn, lev_flat e last ho hl f xs h fun y hy => hx y (List.mem_cons_of_mem _ hy)]
    congr 1
    unfold hv
    rcases h2 with h2 | h2
    · rw [h2, if_pos hl, ho]
    · rw [h2, if_neg (by decide), if_neg (by decide)]
      split
      · exact ho
      · rfl
theorem map_range_getD : ∀ (xs : List Int), (List.range xs.length).map (fun i => xs.getD i 0) = xs := by
  intro xs
  apply List.ext_getElem
  · simp
  · intro i h1 h2
    simp [List.getD, h2]
theorem rep_getD {n i : Nat} {e : Int} (hi : i < n) : (List.replicate n e).getD i 0 = e := by
  rw [List.getD_eq_getElem?_getD, List.getElem?_replicate, if_pos hi]
  rfl
theorem order_zero (n : Nat) : order (List.replicate n 0) = List.range n := by
  have hok : okLv (List.replicate n 0) = true := okLv_of fun i hi => by rw [rep_getD (by simpa using hi)]; omega
  unfold order
  rw [if_pos hok, List.length_replicate, ordN_high (g := 0) 100 _ (by omega) (fun i hi => by rw [rep_getD (List.mem_range.1 hi)]; omega)]
  rfl
theorem order_one (n : Nat) : order (List.replicate n 1) = (List.range n).reverse := by
  have hok : okLv (List.replicate n 1) = true := okLv_of fun i hi => by rw [rep_getD (by simpa using hi)]; omega
  unfold order
  rw [if_pos hok, List.length_replicate, ordN_high (g := 1) 100 _ (by omega) (fun i hi => by rw [rep_getD (List.mem_range.1 hi)]; omega)]
  show stepO (List.replicate n 1) 1 (List.range n) = _
  unfold stepO
  have := rr_run (atLeast (List.replicate n 1) 1) (List.range n) [] [] (fun x hx => by
    unfold atLeast
    rw [rep_getD (List.mem_range.1 hx)]
    exact decide_eq_true (by omega)) (.inl rfl)
  rw [List.append_nil] at this
  rw [this]
  simp [rr]
/-- A text of one direction. -/
theorem plain_left {xs : List Int} (h : xs.all clL = true) : LvErr xs = 0 ∧ LvOut xs false = List.replicate xs.length 0 ∧ (if 30 < mh 0 xs then (⟨#[]⟩ : ByteArray) else encS (visL xs false)) = encS xs := by
  have hx : ∀ x ∈ xs, (initB x = false ∧ termB x = false) ∧ (bcl x = 1 ∨ bcl x = 0) := by
    intro x hx
    have := List.all_eq_true.1 h x hx
    have hc : cls x = 1 ∨ cls x = 0 := by unfold clL at this; exact of_decide_eq_true this
    obtain ⟨a, b, c⟩ := cl_bcl (x := x) ⟨by omega, by omega⟩
    exact ⟨⟨a, b⟩, by rw [c]; exact hc⟩
  have hm := mh_flat xs fun x hxx => (hx x hxx).1
  have hlv : lev xs 0 = List.replicate xs.length 0 := by
    rw [lev_levI]
    exact lev_flat 0 1 (by decide) (by decide) _ xs (Nat.le_refl _) fun x hxx => ⟨(hx x hxx).1.1, (hx x hxx).2⟩
  refine ⟨by unfold LvErr; rw [hm]; rfl, ?_, ?_⟩
  · unfold LvOut eOf
    rw [hm, if_neg (by omega)]
    exact hlv
  · rw [hm, if_neg (by omega)]
    unfold visL eOf
    have hlv' : lev xs (if false = true then (1 : Int) else 0) = List.replicate xs.length 0 := hlv
    rw [hlv', order_zero, map_range_getD]
theorem plain_right {xs : List Int} (h : xs.all clR = true) : LvErr xs = 0 ∧ LvOut xs true = List.replicate xs.length 1 ∧ (if 30 < mh 0 xs then (⟨#[]⟩ : ByteArray) else encS (visL xs true)) = encS xs.reverse := by
  have hx : ∀ x ∈ xs, (initB x = false ∧ termB x = false) ∧ (bcl x = 2 ∨ bcl x = 0) := by
    intro x hx
    have := List.all_eq_true.1 h x hx
    have hc : cls x = 2 ∨ cls x = 0 := by unfold clR at this; exact of_decide_eq_true this
    obtain ⟨a, b, c⟩ := cl_bcl (x := x) ⟨by omega, by omega⟩
    exact ⟨⟨a, b⟩, by rw [c]; exact hc⟩
  have hm := mh_flat xs fun x hxx => (hx x hxx).1
  have hlv : lev xs 1 = List.replicate xs.length 1 := by
    rw [lev_levI]
    exact lev_flat 1 2 (by decide) (by decide) _ xs (Nat.le_refl _) fun x hxx => ⟨(hx x hxx).1.1, (hx x hxx).2⟩
  refine ⟨by unfold LvErr; rw [hm]; rfl, ?_, ?_⟩
  · unfold LvOut eOf
    rw [hm, if_neg (by omega)]
    exact hlv
  · rw [hm, if_neg (by omega)]
    unfold visL eOf
    have hlv' : lev xs (if true = true then (1 : Int) else 0) = List.replicate xs.length 1 := hlv
    rw [hlv', order_one, List.map_reverse, map_range_getD]
theorem all_more {xs : List Int} {p : Int → Bool} {k : Nat} (hk : k < xs.length) : (xs.take (k + 1)).all p = ((xs.take k).all p && p (xs.getD k 0)) := by
  rw [List.take_succ_eq_append_getElem hk, List.all_append]
  simp [List.getD, hk]
theorem rev_more {xs : List Int} {k : Nat} (hk : k < xs.length) : xs.reverse.take (k + 1) = xs.reverse.take k ++ [xs.getD (xs.length - 1 - k) 0] := by
  rw [List.take_succ_eq_append_getElem (by simpa using hk), List.getElem_reverse]
  have : xs.length - 1 - k < xs.length := by omega
  simp [List.getD, this]

set_option maxRecDepth 100000 in
set_option maxHeartbeats 4000000 in
theorem law_BidiPlain (s : ByteArray) (hs : s.size ≤ maxLen) (w : World) : Calls Try.prog 10 #[.string s] w (TrueP w) := by
  unfold maxLen at hs
  by_cases hl : 200 < s.size
  · go_enter Try.func10, Try.ntmps10
    go_wp2_with fail
    refine (awake23_any _).mono ?_
    rintro e w1 ⟨rfl, hb1⟩
    have HB1 := Lib.hid hb1
    clear hb1
    go_wp2_with fail
    refine (awake23_any _).mono ?_
    rintro e w2 ⟨rfl, hb2⟩
    have HB2 := Lib.hid (HB1.out.trans (hb2.mono HB1.out.size))
    clear hb2
    go_wp2
    go_ret
    exact ⟨rfl, HB2.out⟩
  · obtain ⟨i9, hi9, hz0, hz1, hz2⟩ := info_parts Try.infoInt
    have hle := U8.els_len s.data.toList
    rw [U8.size_len] at hle
    have hli : (ints (U8.els s.data.toList)).length ≤ 400 := by unfold ints; rw [List.length_map]; omega
    have h0 := refdecode_any s (by omega)
    unfold DecP at h0
    have h1 := visual_any s false (by omega)
    have h2 := visual_any s true (by omega)
    have h3 := levelsR_any s false (by omega)
    have h4 := levelsR_any s true (by omega)
    unfold VisP at h1 h2
    obtain ⟨xs, hxs⟩ : ∃ xs, ints (U8.els s.data.toList) = xs := ⟨_, rfl⟩
    rw [hxs] at h0 h1 h2 h3 h4 hli
    have hpl := plain_left (xs := xs)
    have hpr := plain_right (xs := xs)
    obtain ⟨n, hn⟩ : ∃ n, n = xs.length := ⟨_, rfl⟩
    rw [← hn] at h0 hpl hpr hli
    obtain ⟨VA, hVA⟩ : ∃ VA, (if 30 < mh 0 xs then (⟨#[]⟩ : ByteArray) else encS (visL xs false)) = VA := ⟨_, rfl⟩
    obtain ⟨VB, hVB⟩ : ∃ VB, (if 30 < mh 0 xs then (⟨#[]⟩ : ByteArray) else encS (visL xs true)) = VB := ⟨_, rfl⟩
    obtain ⟨E, hE⟩ : ∃ E, LvErr xs = E := ⟨_, rfl⟩
    obtain ⟨LA, hLA⟩ : ∃ LA, LvOut xs false = LA := ⟨_, rfl⟩
    obtain ⟨LB, hLB⟩ : ∃ LB, LvOut xs true = LB := ⟨_, rfl⟩
    rw [hVA, hE] at h1
    rw [hVB, hE] at h2
    rw [hE, hLA] at h3
    rw [hE, hLB] at h4
    rw [hE, hVA, hLA] at hpl
    rw [hE, hVB, hLB] at hpr
    have H0 := Lib.hid h0
    have H1 := Lib.hid h1
    have H2 := Lib.hid h2
    have H3 := Lib.hid h3
    have H4 := Lib.hid h4
    have HPL := Lib.hid hpl
    have HPR := Lib.hid hpr
    have HN := Lib.hid hn
    clear h0 h1 h2 h3 h4 hpl hpr hn hxs hle hVA hVB hE hLA hLB
    go_enter Try.func10, Try.ntmps10
    go_wp2_with fail
    refine (awake23_any _).mono ?_
    rintro e w1 ⟨rfl, hb1⟩
    have HB1 := Lib.hid hb1
    clear hb1
    go_wp2_with fail
    refine (H0.out _).mono ?_
    rintro e w2 ⟨u, rfl, ho2, hb2⟩
    rw [HN.out] at ho2
    have hi2 := IsInts.of_own ho2
    have HI2 := Lib.hid hi2
    have HB2 := Lib.hid (HB1.out.trans (hb2.mono HB1.out.size))
    obtain ⟨ao, ca, rfl, hc2⟩ := hi2
    rw [← HN.out] at hc2
    rw [← HN.out]
    obtain ⟨T, hT⟩ : ∃ T, T = w2.heap.size := ⟨_, rfl⟩
    rw [← hT] at hc2
    have hc2 : ∀ W, Below T w2 W → ∀ k, k < n → ∃ b o, ao = some ⟨b, o, none⟩ ∧ W.cell? ⟨b, o + k, none⟩ = some (.int .i64 (xs.getD k 0)) := by
      intro W hW k hk
      obtain ⟨b, o, hb, hbB, hcl⟩ := hc2 (by omega)
      have := hcl k hk
      exact ⟨b, o, hb, (hW.cell (p := ⟨b, o + k, none⟩) hbB).trans this⟩
    have HC2 := Lib.hid hc2
    have HT := Lib.hid hT
    clear hc2 hT hb2 ho2
    go_wp2
    go_loopw [4, 5, 6, 7, 8, 9, 29] (fun lf rf bv _ _ _ cv wr => ∃ k : Nat, k ≤ n ∧ cv = .int .i64 k ∧ lf = .bool ((xs.take k).all clL) ∧ rf = .bool ((xs.take k).all clR) ∧ wr.ownsRow T 3 1 bv k ((xs.reverse.take k).map (Value.int .i64)) ∧ Below T w2 wr) (fun _ _ _ _ _ _ cv _ => n - (intOf cv).toNat)
    case atStart => exact ⟨0, Nat.zero_le _, rfl, rfl, rfl, World.ownsRow_nil _ _ _ _, Below.refl _ _⟩
    case round =>
      obtain ⟨k, hk, rfl, rfl, rfl, hown, hb⟩ := hrel
      have k0 : (0 : Int) ≤ (k : Int) := by omega
      by_cases hkn : k < n
      · have k1 : (k : Int) < (n : Int) := by omega
        obtain ⟨b, o, rfl, c1⟩ := HC2.out wr hb k hkn
        obtain ⟨b', o', hbb, c2⟩ := HC2.out wr hb (n - 1 - k) (by omega)
        cases hbb
        have hm1 := all_more (xs := xs) (p := clL) (k := k) (by have := HN.out; omega)
        have hm2 := all_more (xs := xs) (p := clR) (k := k) (by have := HN.out; omega)
        have hm3 := rev_more (xs := xs) (k := k) (by have := HN.out; omega)
        rw [← HN.out] at hm3
        obtain ⟨y, hy⟩ : ∃ y, xs.getD (n - 1 - k) 0 = y := ⟨_, rfl⟩
        obtain ⟨x, hx⟩ : ∃ x, xs.getD k 0 = x := ⟨_, rfl⟩
        rw [hy] at c2 hm3
        rw [hx] at c1 hm1 hm2
        have hcz := fun W => class_any x W
        unfold ClassP at hcz
        have hcL : clL x = decide (cls x = 1 ∨ cls x = 0) := rfl
        have hcR : clR x = decide (cls x = 2 ∨ cls x = 0) := rfl
        obtain ⟨z, hz⟩ : ∃ z, cls x = z := ⟨_, rfl⟩
        simp only [hz] at hcz
        rw [hz] at hcL hcR
        rw [hcL] at hm1
        rw [hcR] at hm2
        obtain ⟨p1, hp1⟩ : ∃ p1, (xs.take k).all clL = p1 := ⟨_, rfl⟩
        obtain ⟨p2, hp2⟩ : ∃ p2, (xs.take k).all clR = p2 := ⟨_, rfl⟩
        rw [hp1] at hm1
        rw [hp2] at hm2
        rw [hp1, hp2]
        have HCZ := Lib.hid hcz
        have HM1 := Lib.hid hm1
        have HM2 := Lib.hid hm2
        have HM3 := Lib.hid hm3
        have HO := Lib.hid hown
        have HBW := Lib.hid hb
        have hTs : T ≤ wr.heap.size := by rw [HT.out]; exact hb.size
        have q0 : (0 : Int) ≤ (n : Int) - 1 - (k : Int) := by omega
        have q1 : (n : Int) - 1 - (k : Int) < (n : Int) := by omega
        have q2 : ((n : Int) - 1 - (k : Int)).toNat = n - 1 - k := by omega
        clear hm1 hm2 hm3 hy hx hcz hz hcL hcR hp1 hp2 hb
        go_wp2_with fail
        refine (HCZ.out _).mono ?_
        rintro e wq ⟨rfl, rfl⟩
        have hzz : z = 0 ∨ z = 1 ∨ z = 2 ∨ (z ≠ 0 ∧ z ≠ 1 ∧ z ≠ 2) := by omega
        rcases hzz with rfl | rfl | rfl | ⟨z0, z1, z2⟩
        all_goals
          try have d0 : (z == 0) = false := by simp [z0]
          try have d1 : (z == 1) = false := by simp [z1]
          try have d2 : (z == 2) = false := by simp [z2]
          cases p1 <;> cases p2
        all_goals
          go_wp2_with (at_builtin; refine wpList_append_own _ rfl _ _ 24 rfl T 3 i9 (.int .i64 0) 1 8 Try.underlying24 hi9 hz0 hz1 hz2 rfl (by decide) _ _ _ rfl (hown.alloc _) ⟨wr.heap.size, 0, none⟩ 1 1 [.int .i64 y] rfl rfl (cell_one_new _ _ _) (by intro u hu; simp at hu; subst hu; rfl) (by unfold maxLen; omega) (by omega) (by simp; omega) ?_; intro v' w6 hE2 hg2 hg3)
          have hb6 : Below T w2 w6 := (HBW.out.alloc (by have := HT.out; omega) _).grown hg2 (by have := HT.out; simp; omega) (fun j e => (HO.out.lt j e).1)
          have HE6 := Lib.hid hE2
          have HB6 := Lib.hid hb6
          clear hE2 hg2 hg3 hb6 hown
          go_wp2
          go_roundw
          case rel => exact ⟨k + 1, by omega, by go_num, by rw [HM1.out]; simp_all, by rw [HM2.out]; simp_all, by rw [HM3.out, List.map_append]; exact HE6.out, HB6.out⟩
          case measure => simp [intOf] <;> omega
      · have hkn2 : k = n := by omega
        have k1 : (n : Int) ≤ (k : Int) := by omega
        have ht1 : xs.take k = xs := List.take_of_length_le (by have := HN.out; omega)
        have ht2 : xs.reverse.take k = xs.reverse := List.take_of_length_le (by rw [List.length_reverse]; have := HN.out; omega)
        rw [ht2] at hown
        rw [ht1]
        have hii := IsInts.of_own (base := T) (e := 3) (xs := xs.reverse) (by rw [List.length_reverse, ← HN.out, ← hkn2]; exact hown)
        have hia : IsInts wr wr.heap.size (.slice ao n ca) xs := by
          refine ⟨ao, ca, by rw [← HN.out], fun h0 => ?_⟩
          obtain ⟨b, o, rfl, _⟩ := HC2.out wr hb 0 (by have := HN.out; omega)
          refine ⟨b, o, rfl, ?_, fun i hi => ?_⟩
          · obtain ⟨b', o', hbb, h5⟩ := HC2.out wr hb 0 (by have := HN.out; omega)
            cases hbb
            exact World.block_lt_of_cell? wr _ h5
          · obtain ⟨b', o', hbb, h5⟩ := HC2.out wr hb i (by have := HN.out; omega)
            cases hbb
            exact h5
        have HII := Lib.hid hii
        have HIA := Lib.hid hia
        have HBW := Lib.hid (HB2.out.trans (hb.mono (by rw [HT.out]; exact HB2.out.size)))
        have hpl := HPL.out
        have hpr := HPR.out
        obtain ⟨PL, hPL⟩ : ∃ PL, xs.all clL = PL := ⟨_, rfl⟩
        obtain ⟨PR, hPR⟩ : ∃ PR, xs.all clR = PR := ⟨_, rfl⟩
        rw [hPL] at hpl
        rw [hPR] at hpr
        rw [hPL, hPR]
        clear ht1 ht2 hown hii hia hb hPL hPR hkn2 HC2 HPL HPR
        go_wp2_with fail
        refine (H1.out _).mono ?_
        rintro e w3 ⟨rfl, hb3⟩
        have HB3 := Lib.hid (HBW.out.trans (hb3.mono HBW.out.size))
        have HII3 := Lib.hid ((HII.out.below hb3).more hb3.size)
        have HIA3 := Lib.hid ((HIA.out.below hb3).more hb3.size)
        clear hb3 HII HIA
        go_wp2_with fail
        refine (H2.out _).mono ?_
        rintro e w4 ⟨rfl, hb4⟩
        have HB4 := Lib.hid (HB3.out.trans (hb4.mono HB3.out.size))
        have HII4 := Lib.hid ((HII3.out.below hb4).more hb4.size)
        have HIA4 := Lib.hid ((HIA3.out.below hb4).more hb4.size)
        clear hb4 HII3 HIA3
        go_wp2_with fail
        refine (H3.out _).mono ?_
        rintro e w5 ⟨v5, rfl, hi5, hb5⟩
        have HB5 := Lib.hid (HB4.out.trans (hb5.mono HB4.out.size))
        have HII5 := Lib.hid ((HII4.out.below hb5).more hb5.size)
        have HIA5 := Lib.hid ((HIA4.out.below hb5).more hb5.size)
        have HX5 := Lib.hid hi5
        clear hb5 hi5 HII4 HIA4
        go_wp2_with fail
        refine (H4.out _).mono ?_
        rintro e w6 ⟨v6, rfl, hi6, hb6⟩
        have HB6 := Lib.hid (HB5.out.trans (hb6.mono HB5.out.size))
        have HII6 := Lib.hid ((HII5.out.below hb6).more hb6.size)
        have HIA6 := Lib.hid ((HIA5.out.below hb6).more hb6.size)
        have hx6 := (HX5.out.below hb6).more hb6.size
        clear hb6 HII5 HIA5 HX5
        obtain ⟨ao5, ca5, rfl, hc5⟩ := hx6
        obtain ⟨ao6, ca6, rfl, hc6⟩ := hi6
        have g5 : PL = true → LA.length = n ∧ ∀ i, i < n → ∃ b o, ao5 = some ⟨b, o, none⟩ ∧ ∀ W, Below w6.heap.size w6 W → W.cell? ⟨b, o + i, none⟩ = some (.int .i64 0) := by
          intro h
          obtain ⟨_, h2, _⟩ := hpl h
          have hl5 : LA.length = n := by rw [h2, List.length_replicate]
          refine ⟨hl5, fun i hi => ?_⟩
          obtain ⟨b, o, hb, hbB, hcl⟩ := hc5 (by omega)
          refine ⟨b, o, hb, fun W hW => ?_⟩
          have := hcl i (by omega)
          rw [h2, rep_getD hi] at this
          exact (hW.cell (p := ⟨b, o + i, none⟩) hbB).trans this
        have g6 : PR = true → LB.length = n ∧ ∀ i, i < n → ∃ b o, ao6 = some ⟨b, o, none⟩ ∧ ∀ W, Below w6.heap.size w6 W → W.cell? ⟨b, o + i, none⟩ = some (.int .i64 1) := by
          intro h
          obtain ⟨_, h2, _⟩ := hpr h
          have hl5 : LB.length = n := by rw [h2, List.length_replicate]
          refine ⟨hl5, fun i hi => ?_⟩
          obtain ⟨b, o, hb, hbB, hcl⟩ := hc6 (by omega)
          refine ⟨b, o, hb, fun W hW => ?_⟩
          have := hcl i (by omega)
          rw [h2, rep_getD hi] at this
          exact (hW.cell (p := ⟨b, o + i, none⟩) hbB).trans this
        have v1 : PL = true → E = 0 ∧ VA = encS xs := fun h => ⟨(hpl h).1, (hpl h).2.2⟩
        have v2 : PR = true → E = 0 ∧ VB = encS xs.reverse := fun h => ⟨(hpr h).1, (hpr h).2.2⟩
        have HEN1 := Lib.hid fun W (h : Below w6.heap.size w6 W) => refencode_any _ _ (by have := HN.out; omega) W ((HIA6.out.below h).more h.size)
        have HEN2 := Lib.hid fun W (h : Below w6.heap.size w6 W) => refencode_any _ _ (by rw [List.length_reverse]; have := HN.out; omega) W ((HII6.out.below h).more h.size)
        have G5 := Lib.hid g5
        have G6 := Lib.hid g6
        have V1 := Lib.hid v1
        have V2 := Lib.hid v2
        clear hc5 hc6 hpl hpr g5 g6 v1 v2 H1 H2 H3 H4 HII6 HIA6
        cases PL <;> cases PR
        case false.false =>
          go_wp2
          go_loopw [18, 88] (fun _ cv wr => ∃ k : Nat, k ≤ n ∧ cv = .int .i64 k ∧ Below w6.heap.size w6 wr) (fun _ cv _ => n - (intOf cv).toNat)
          case atStart => exact ⟨0, Nat.zero_le _, rfl, Below.refl _ _⟩
          case round =>
            obtain ⟨k, hk, rfl, hb⟩ := hrel
            have k0 : (0 : Int) ≤ (k : Int) := by omega
            have HBK := Lib.hid hb
            clear hb
            by_cases hkn3 : k < n
            · have k2 : (k : Int) < (n : Int) := by omega
              go_wp2
              go_roundw
              case rel => exact ⟨k + 1, by omega, by go_num, HBK.out⟩
              case measure => simp [intOf] <;> omega
            · have k2 : (n : Int) ≤ (k : Int) := by omega
              go_wp2
              go_ret
              exact ⟨by simp, HB6.out.trans (HBK.out.mono HB6.out.size)⟩
        case true.false =>
          obtain ⟨hl5, g5⟩ := G5.out rfl
          obtain ⟨rfl, rfl⟩ := V1.out rfl
          rw [hl5]
          have J5 := Lib.hid g5
          clear hl5 g5 G5 G6
          go_wp2
          go_loopw [18, 88] (fun _ cv wr => ∃ k : Nat, k ≤ n ∧ cv = .int .i64 k ∧ Below w6.heap.size w6 wr) (fun _ cv _ => n - (intOf cv).toNat)
          case atStart => exact ⟨0, Nat.zero_le _, rfl, Below.refl _ _⟩
          case round =>
            obtain ⟨k, hk, rfl, hb⟩ := hrel
            have k0 : (0 : Int) ≤ (k : Int) := by omega
            by_cases hkn3 : k < n
            · have k2 : (k : Int) < (n : Int) := by omega
              obtain ⟨b, o, rfl, c5⟩ := J5.out k hkn3
              have c5 := c5 _ hb
              have HBK := Lib.hid hb
              clear hb
              go_wp2
              go_roundw
              case rel => exact ⟨k + 1, by omega, by go_num, HBK.out⟩
              case measure => simp [intOf] <;> omega
            · have k2 : (n : Int) ≤ (k : Int) := by omega
              have HBK := Lib.hid hb
              clear hb
              go_wp2_with fail
              refine (HEN1.out _ HBK.out).mono ?_
              rintro e w7 ⟨rfl, hb7⟩
              have HB7 := Lib.hid (HBK.out.trans (hb7.mono HBK.out.size))
              clear hb7
              go_wp2
              go_ret
              exact ⟨by simp, HB6.out.trans (HB7.out.mono HB6.out.size)⟩
        case false.true =>
          obtain ⟨hl6, g6⟩ := G6.out rfl
          obtain ⟨rfl, rfl⟩ := V2.out rfl
          rw [hl6]
          have J6 := Lib.hid g6
          clear hl6 g6 G5 G6
          go_wp2
          go_loopw [18, 88] (fun _ cv wr => ∃ k : Nat, k ≤ n ∧ cv = .int .i64 k ∧ Below w6.heap.size w6 wr) (fun _ cv _ => n - (intOf cv).toNat)
          case atStart => exact ⟨0, Nat.zero_le _, rfl, Below.refl _ _⟩
          case round =>
            obtain ⟨k, hk, rfl, hb⟩ := hrel
            have k0 : (0 : Int) ≤ (k : Int) := by omega
            by_cases hkn3 : k < n
            · have k2 : (k : Int) < (n : Int) := by omega
              obtain ⟨b, o, rfl, c6⟩ := J6.out k hkn3
              have c6 := c6 _ hb
              have HBK := Lib.hid hb
              clear hb
              go_wp2
              go_roundw
              case rel => exact ⟨k + 1, by omega, by go_num, HBK.out⟩
              case measure => simp [intOf] <;> omega
            · have k2 : (n : Int) ≤ (k : Int) := by omega
              have HBK := Lib.hid hb
              clear hb
              go_wp2_with fail
              refine (HEN2.out _ HBK.out).mono ?_
              rintro e w7 ⟨rfl, hb7⟩
              have HB7 := Lib.hid (HBK.out.trans (hb7.mono HBK.out.size))
              clear hb7
              go_wp2
              go_ret
              exact ⟨by simp, HB6.out.trans (HB7.out.mono HB6.out.size)⟩
        case true.true =>
          obtain ⟨hl5, g5⟩ := G5.out rfl
          obtain ⟨hl6, g6⟩ := G6.out rfl
          obtain ⟨rfl, rfl⟩ := V1.out rfl
          obtain ⟨_, rfl⟩ := V2.out rfl
          rw [hl5, hl6]
          have J5 := Lib.hid g5
          have J6 := Lib.hid g6
          clear hl5 g5 hl6 g6 G5 G6
          go_wp2
          go_loopw [18, 88] (fun _ cv wr => ∃ k : Nat, k ≤ n ∧ cv = .int .i64 k ∧ Below w6.heap.size w6 wr) (fun _ cv _ => n - (intOf cv).toNat)
          case atStart => exact ⟨0, Nat.zero_le _, rfl, Below.refl _ _⟩
          case round =>
            obtain ⟨k, hk, rfl, hb⟩ := hrel
            have k0 : (0 : Int) ≤ (k : Int) := by omega
            by_cases hkn3 : k < n
            · have k2 : (k : Int) < (n : Int) := by omega
              obtain ⟨b, o, rfl, c5⟩ := J5.out k hkn3
              obtain ⟨b2, o2, rfl, c6⟩ := J6.out k hkn3
              have c5 := c5 _ hb
              have c6 := c6 _ hb
              have HBK := Lib.hid hb
              clear hb
              go_wp2
              go_roundw
              case rel => exact ⟨k + 1, by omega, by go_num, HBK.out⟩
              case measure => simp [intOf] <;> omega
            · have k2 : (n : Int) ≤ (k : Int) := by omega
              have HBK := Lib.hid hb
              clear hb
              go_wp2_with fail
              refine (HEN1.out _ HBK.out).mono ?_
              rintro e w7 ⟨rfl, hb7⟩
              have HB7 := Lib.hid (HBK.out.trans (hb7.mono HBK.out.size))
              clear hb7
              go_wp2_with fail
              refine (HEN2.out _ HB7.out).mono ?_
              rintro e w8 ⟨rfl, hb8⟩
              have HB8 := Lib.hid (HB7.out.trans (hb8.mono HB7.out.size))
              clear hb8
              go_wp2
              go_ret
              exact ⟨by simp, HB6.out.trans (HB8.out.mono HB6.out.size)⟩
end Go.Proofs.Ytgefbagojghmeaa
