/-
  bidi.Visual and calqueref23.Visual: the string in visual order.
-/
import Derived.Test.YtgefbagojghmeaaOr4
import Derived.Test.YtgefbagojghmeaaLawBidiParity
import Derived.Test.YtgefbagojghmeaaU8W15
import Derived.Test.YtgefbagojghmeaaU8W17
namespace Go.Proofs.Ytgefbagojghmeaa
open Go.RowKit

theorem lev_ok {xs : List Int} {rtl : Bool} (h : ¬ 30 < mh 0 xs) : okLv (lev xs (eOf rtl)) = true := by
  refine okLv_of fun i hi => ?_
  rw [lev_len] at hi
  have := lev_at (xs := xs) (e := eOf rtl) (by unfold eOf; split <;> omega) hi
  obtain ⟨_, _, _, h1, h2⟩ := this
  unfold eOf at h1 h2
  have h1 : (if rtl then (1 : Int) else 0) ≤ (lev xs (eOf rtl)).getD i 0 := h1
  have h2 : (lev xs (eOf rtl)).getD i 0 ≤ (if rtl then (1 : Int) else 0) + 2 * mh 0 xs + 2 := h2
  split at h1 <;> simp_all <;> omega
/-- The elements in visual order. -/
def visL (xs : List Int) (rtl : Bool) : List Int := (order (lev xs (eOf rtl))).map fun i => xs.getD i 0
def VisP (xs : List Int) (rtl : Bool) (w : World) (e : Ending) (w' : World) : Prop :=
  e = .returned (.tuple #[.string (if 30 < mh 0 xs then ⟨#[]⟩ else encS (visL xs rtl)), .int .i64 (LvErr xs)]) ∧ Below w.heap.size w w'
theorem take_snoc {O : List Nat} {f : Nat → Int} {k : Nat} (hk : k < O.length) : (O.map f).take (k + 1) = (O.map f).take k ++ [f (O.getD k 0)] := by
  rw [List.take_succ_eq_append_getElem (by simpa using hk)]
  simp [List.getD, hk]

set_option maxRecDepth 100000 in
set_option maxHeartbeats 4000000 in
theorem visual_any (s : ByteArray) (rtl : Bool) (hs : s.size ≤ 400) (w : World) : Calls Try.prog 28 #[.string s, .bool rtl] w (VisP (ints (U8.els s.data.toList)) rtl w) := by
  obtain ⟨i9, hi9, hz0, hz1, hz2⟩ := info_parts Try.infoInt
  have hle := U8.els_len s.data.toList
  rw [U8.size_len] at hle
  have hli : (ints (U8.els s.data.toList)).length ≤ 400 := by unfold ints; rw [List.length_map]; omega
  have h1 := levelsR_any s rtl (by omega)
  have h2 := decode_any s (by omega)
  unfold DecP at h2
  unfold VisP
  obtain ⟨xs, hxs⟩ : ∃ xs, ints (U8.els s.data.toList) = xs := ⟨_, rfl⟩
  rw [hxs] at h1 h2 hli
  rw [hxs]
  unfold LvErr LvOut at h1
  unfold LvErr
  by_cases h30 : 30 < mh 0 xs
  · rw [if_pos h30, if_pos h30] at h1
    rw [if_pos h30, if_pos h30]
    have H1 := Lib.hid h1
    clear h1 h2 hxs hle h30
    go_enter Try.func28, Try.ntmps28
    go_wp2_with fail
    refine (H1.out _).mono ?_
    rintro e w2 ⟨v, rfl, _, hb2⟩
    have HB2 := Lib.hid hb2
    clear hb2
    go_wp2
    go_ret2
    exact ⟨rfl, HB2.out⟩
  · have hok := lev_ok (rtl := rtl) h30
    rw [if_neg h30, if_neg h30] at h1
    rw [if_neg h30, if_neg h30]
    have hll := lev_len xs (eOf rtl)
    have hol := order_len hok
    have hlt := order_lt hok
    unfold visL
    obtain ⟨L, hL⟩ : ∃ L, lev xs (eOf rtl) = L := ⟨_, rfl⟩
    rw [hL] at h1 hll hol hlt
    rw [hL]
    have h3 := fun v B W (q : IsInts W B v L) (qB : B ≤ W.heap.size) => order_any v L B W q qB (by omega)
    obtain ⟨O, hO⟩ : ∃ O, order L = O := ⟨_, rfl⟩
    rw [hO] at hol hlt
    simp only [hO] at h3
    rw [hO]
    obtain ⟨n, hn⟩ : ∃ n, n = xs.length := ⟨_, rfl⟩
    rw [hll, ← hn] at hol hlt
    rw [← hn] at hli h2
    have hgl : ∀ k, k < n → O.getD k 0 < n := by
      intro k hk
      refine hlt _ ?_
      have hk' : k < O.length := by omega
      have e : O.getD k 0 = O[k] := by simp [List.getD, hk']
      rw [e]
      exact List.getElem_mem _
    have H1 := Lib.hid h1
    have H2 := Lib.hid h2
    have H3 := Lib.hid h3
    have HN := Lib.hid hn
    have HOL := Lib.hid hol
    have HGL := Lib.hid hgl
    clear h1 h2 h3 hxs hle h30 hok hll hol hlt hL hO hn hgl
    go_enter Try.func28, Try.ntmps28
    go_wp2_with fail
    refine (H1.out _).mono ?_
    rintro e w2 ⟨v, rfl, hi2, hb2⟩
    have HI2 := Lib.hid hi2
    have HB2 := Lib.hid hb2
    clear hi2 hb2
    go_wp2_with fail
    refine (H2.out _).mono ?_
    rintro e w3 ⟨u, rfl, ho3, hb3⟩
    rw [HN.out] at ho3
    have hi3 := IsInts.of_own ho3
    have HI3 := Lib.hid hi3
    have HI23 := Lib.hid (HI2.out.below hb3)
    have HS3 := Lib.hid hb3.size
    have HB3 := Lib.hid (HB2.out.trans (hb3.mono HB2.out.size))
    clear ho3 hb3 hi3
    go_wp2_with fail
    refine (H3.out _ _ _ HI23.out HS3.out).mono ?_
    rintro e w4 ⟨r, rfl, hi4, hb4⟩
    have hi34 := HI3.out.below hb4
    have HB4 := Lib.hid (HB3.out.trans (hb4.mono HB3.out.size))
    have HS4 := Lib.hid hb4.size
    obtain ⟨ao4, ca4, rfl, hc4⟩ := hi4
    obtain ⟨ao3, ca3, rfl, hc3⟩ := hi34
    rw [natI_len, HOL.out] at hc4
    rw [natI_len, HOL.out]
    rw [← HN.out] at hc3
    rw [← HN.out]
    obtain ⟨T, hT⟩ : ∃ T, T = w4.heap.size := ⟨_, rfl⟩
    rw [← hT] at hc4
    have hc4 : ∀ W, Below T w4 W → ∀ k, k < n → ∃ b o, ao4 = some ⟨b, o, none⟩ ∧ W.cell? ⟨b, o + k, none⟩ = some (.int .i64 (O.getD k 0 : Nat)) := by
      intro W hW k hk
      obtain ⟨b, o, hb, hbB, hcl⟩ := hc4 (by omega)
      have := hcl k (by omega)
      rw [natI_at (by have := HOL.out; omega)] at this
      exact ⟨b, o, hb, (hW.cell (p := ⟨b, o + k, none⟩) hbB).trans this⟩
    have hc3 : ∀ W, Below T w4 W → ∀ k, k < n → ∃ b o, ao3 = some ⟨b, o, none⟩ ∧ W.cell? ⟨b, o + k, none⟩ = some (.int .i64 (xs.getD k 0)) := by
      intro W hW k hk
      obtain ⟨b, o, hb, hbB, hcl⟩ := hc3 (by omega)
      exact ⟨b, o, hb, (hW.cell (p := ⟨b, o + k, none⟩) (by rw [hT]; exact Nat.lt_of_lt_of_le hbB HS4.out)).trans (hcl k (by omega))⟩
    have HC3 := Lib.hid hc3
    have HC4 := Lib.hid hc4
    have HT := Lib.hid hT
    clear hc3 hc4 hT hb4
    go_wp2
    go_loopw [9, 11, 26] (fun ov _ cv wr => ∃ k : Nat, k ≤ n ∧ cv = .int .i64 k ∧ wr.ownsRow T 3 1 ov k (((O.map fun i => xs.getD i 0).take k).map (Value.int .i64)) ∧ Below T w4 wr) (fun _ _ cv _ => n - (intOf cv).toNat)
    case atStart => exact ⟨0, Nat.zero_le _, rfl, World.ownsRow_nil _ _ _ _, Below.refl _ _⟩
    case round =>
      obtain ⟨k, hk, rfl, hown, hb⟩ := hrel
      have k0 : (0 : Int) ≤ (k : Int) := by omega
      by_cases hkn : k < n
      · have k1 : (k : Int) < (n : Int) := by omega
        obtain ⟨b4, o4, rfl, c4⟩ := HC4.out wr hb k hkn
        have hxn := HGL.out k hkn
        have htk := take_snoc (O := O) (f := fun i => xs.getD i 0) (k := k) (by have := HOL.out; omega)
        obtain ⟨x, hx⟩ : ∃ x, O.getD k 0 = x := ⟨_, rfl⟩
        rw [hx] at c4 hxn htk
        obtain ⟨b3, o3, rfl, c3⟩ := HC3.out wr hb x hxn
        obtain ⟨y, hy⟩ : ∃ y, xs.getD x 0 = y := ⟨_, rfl⟩
        rw [hy] at c3 htk
        have x0 : (0 : Int) ≤ (x : Int) := by omega
        have x1 : (x : Int) < (n : Int) := by omega
        have HTK := Lib.hid htk
        have HO := Lib.hid hown
        have HBW := Lib.hid hb
        have hTs : T ≤ wr.heap.size := by rw [HT.out]; exact hb.size
        clear htk hx hy hb
        go_wp2_with (at_builtin; refine wpList_append_own _ rfl _ _ 24 rfl T 3 i9 (.int .i64 0) 1 8 Try.underlying24 hi9 hz0 hz1 hz2 rfl (by decide) _ _ _ rfl (hown.alloc _) ⟨wr.heap.size, 0, none⟩ 1 1 [.int .i64 y] rfl rfl (cell_one_new _ _ _) (by intro u hu; simp at hu; subst hu; rfl) (by unfold maxLen; omega) (by omega) (by simp; omega) ?_; intro v' w6 hE2 hg2 hg3)
        have hb6 : Below T w4 w6 := (HBW.out.alloc (by have := HT.out; omega) _).grown hg2 (by have := HT.out; simp; omega) (fun j e => (HO.out.lt j e).1)
        have HE6 := Lib.hid hE2
        have HB6 := Lib.hid hb6
        clear hE2 hg2 hg3 hb6 hown
        go_wp2
        go_roundw
        case rel => exact ⟨k + 1, by omega, by go_num, by rw [HTK.out, List.map_append]; exact HE6.out, HB6.out⟩
        case measure => simp [intOf] <;> omega
      · have hkn2 : k = n := by omega
        have k1 : (n : Int) ≤ (k : Int) := by omega
        have htk : (O.map fun i => xs.getD i 0).take k = O.map fun i => xs.getD i 0 := List.take_of_length_le (by rw [List.length_map]; have := HOL.out; omega)
        rw [htk] at hown
        have hii := IsInts.of_own (base := T) (e := 3) (xs := O.map fun i => xs.getD i 0) (by rw [List.length_map, HOL.out, ← hkn2]; exact hown)
        have hen := encode_any _ _ (by rw [List.length_map, HOL.out]; omega) wr hii
        unfold EncodeP at hen
        have HEN := Lib.hid hen
        have HBW := Lib.hid (HB4.out.trans (hb.mono (by rw [HT.out]; exact HB4.out.size)))
        clear hen hii htk hown hb hkn2
        go_wp2_with fail
        refine HEN.out.mono ?_
        rintro e w7 ⟨rfl, hb7⟩
        have HB7 := Lib.hid (HBW.out.trans (hb7.mono HBW.out.size))
        clear hb7
        go_wp2
        go_ret2
        exact ⟨rfl, HB7.out⟩
set_option maxRecDepth 100000 in
set_option maxHeartbeats 4000000 in
theorem refvisual_any (s : ByteArray) (rtl : Bool) (hs : s.size ≤ 400) (w : World) : Calls Try.prog 29 #[.string s, .bool rtl] w (VisP (ints (U8.els s.data.toList)) rtl w) := by
  obtain ⟨i9, hi9, hz0, hz1, hz2⟩ := info_parts Try.infoInt
  have hle := U8.els_len s.data.toList
  rw [U8.size_len] at hle
  have hli : (ints (U8.els s.data.toList)).length ≤ 400 := by unfold ints; rw [List.length_map]; omega
  have h1 := reflevelsR_any s rtl (by omega)
  have h2 := refdecode_any s (by omega)
  unfold DecP at h2
  unfold VisP
  obtain ⟨xs, hxs⟩ : ∃ xs, ints (U8.els s.data.toList) = xs := ⟨_, rfl⟩
  rw [hxs] at h1 h2 hli
  rw [hxs]
  unfold LvErr LvOut at h1
  unfold LvErr
  by_cases h30 : 30 < mh 0 xs
  · rw [if_pos h30, if_pos h30] at h1
    rw [if_pos h30, if_pos h30]
    have H1 := Lib.hid h1
    clear h1 h2 hxs hle h30
    go_enter Try.func29, Try.ntmps29
    go_wp2_with fail
    refine (H1.out _).mono ?_
    rintro e w2 ⟨v, rfl, _, hb2⟩
    have HB2 := Lib.hid hb2
    clear hb2
    go_wp2
    go_ret2
    exact ⟨rfl, HB2.out⟩
  · have hok := lev_ok (rtl := rtl) h30
    rw [if_neg h30, if_neg h30] at h1
    rw [if_neg h30, if_neg h30]
    have hll := lev_len xs (eOf rtl)
    have hol := order_len hok
    have hlt := order_lt hok
    unfold visL
    obtain ⟨L, hL⟩ : ∃ L, lev xs (eOf rtl) = L := ⟨_, rfl⟩
    rw [hL] at h1 hll hol hlt
    rw [hL]
    have h3 := fun v B W (q : IsInts W B v L) (qB : B ≤ W.heap.size) => reforder_any v L B W q qB (by omega)
    obtain ⟨O, hO⟩ : ∃ O, order L = O := ⟨_, rfl⟩
    rw [hO] at hol hlt
    simp only [hO] at h3
    rw [hO]
    obtain ⟨n, hn⟩ : ∃ n, n = xs.length := ⟨_, rfl⟩
    rw [hll, ← hn] at hol hlt
    rw [← hn] at hli h2
    have hgl : ∀ k, k < n → O.getD k 0 < n := by
      intro k hk
      refine hlt _ ?_
      have hk' : k < O.length := by omega
      have e : O.getD k 0 = O[k] := by simp [List.getD, hk']
      rw [e]
      exact List.getElem_mem _
    have H1 := Lib.hid h1
    have H2 := Lib.hid h2
    have H3 := Lib.hid h3
    have HN := Lib.hid hn
    have HOL := Lib.hid hol
    have HGL := Lib.hid hgl
    clear h1 h2 h3 hxs hle h30 hok hll hol hlt hL hO hn hgl
    go_enter Try.func29, Try.ntmps29
    go_wp2_with fail
    refine (H1.out _).mono ?_
    rintro e w2 ⟨v, rfl, hi2, hb2⟩
    have HI2 := Lib.hid hi2
    have HB2 := Lib.hid hb2
    clear hi2 hb2
    go_wp2_with fail
    refine (H2.out _).mono ?_
    rintro e w3 ⟨u, rfl, ho3, hb3⟩
    rw [HN.out] at ho3
    have hi3 := IsInts.of_own ho3
    have HI3 := Lib.hid hi3
    have HI23 := Lib.hid (HI2.out.below hb3)
    have HS3 := Lib.hid hb3.size
    have HB3 := Lib.hid (HB2.out.trans (hb3.mono HB2.out.size))
    clear ho3 hb3 hi3
    go_wp2_with fail
    refine (H3.out _ _ _ HI23.out HS3.out).mono ?_
    rintro e w4 ⟨r, rfl, hi4, hb4⟩
    have hi34 := HI3.out.below hb4
    have HB4 := Lib.hid (HB3.out.trans (hb4.mono HB3.out.size))
    have HS4 := Lib.hid hb4.size
    obtain ⟨ao4, ca4, rfl, hc4⟩ := hi4
    obtain ⟨ao3, ca3, rfl, hc3⟩ := hi34
    rw [natI_len, HOL.out] at hc4
    rw [natI_len, HOL.out]
    rw [← HN.out] at hc3
    rw [← HN.out]
    obtain ⟨T, hT⟩ : ∃ T, T = w4.heap.size := ⟨_, rfl⟩
    rw [← hT] at hc4
    have hc4 : ∀ W, Below T w4 W → ∀ k, k < n → ∃ b o, ao4 = some ⟨b, o, none⟩ ∧ W.cell? ⟨b, o + k, none⟩ = some (.int .i64 (O.getD k 0 : Nat)) := by
      intro W hW k hk
      obtain ⟨b, o, hb, hbB, hcl⟩ := hc4 (by omega)
      have := hcl k (by omega)
      rw [natI_at (by have := HOL.out; omega)] at this
      exact ⟨b, o, hb, (hW.cell (p := ⟨b, o + k, none⟩) hbB).trans this⟩
    have hc3 : ∀ W, Below T w4 W → ∀ k, k < n → ∃ b o, ao3 = some ⟨b, o, none⟩ ∧ W.cell? ⟨b, o + k, none⟩ = some (.int .i64 (xs.getD k 0)) := by
      intro W hW k hk
      obtain ⟨b, o, hb, hbB, hcl⟩ := hc3 (by omega)
      exact ⟨b, o, hb, (hW.cell (p := ⟨b, o + k, none⟩) (by rw [hT]; exact Nat.lt_of_lt_of_le hbB HS4.out)).trans (hcl k (by omega))⟩
    have HC3 := Lib.hid hc3
    have HC4 := Lib.hid hc4
    have HT := Lib.hid hT
    clear hc3 hc4 hT hb4
    go_wp2
    go_loopw [10, 11] (fun ov cv wr => ∃ k : Nat, k ≤ n ∧ cv = .int .i64 k ∧ wr.ownsRow T 3 1 ov k (((O.map fun i => xs.getD i 0).take k).map (Value.int .i64)) ∧ Below T w4 wr) (fun _ cv _ => n - (intOf cv).toNat)
    case atStart => exact ⟨0, Nat.zero_le _, rfl, World.ownsRow_nil _ _ _ _, Below.refl _ _⟩
    case round =>
      obtain ⟨k, hk, rfl, hown, hb⟩ := hrel
      have k0 : (0 : Int) ≤ (k : Int) := by omega
      by_cases hkn : k < n
      · have k1 : (k : Int) < (n : Int) := by omega
        obtain ⟨b4, o4, rfl, c4⟩ := HC4.out wr hb k hkn
        have hxn := HGL.out k hkn
        have htk := take_snoc (O := O) (f := fun i => xs.getD i 0) (k := k) (by have := HOL.out; omega)
        obtain ⟨x, hx⟩ : ∃ x, O.getD k 0 = x := ⟨_, rfl⟩
        rw [hx] at c4 hxn htk
        obtain ⟨b3, o3, rfl, c3⟩ := HC3.out wr hb x hxn
        obtain ⟨y, hy⟩ : ∃ y, xs.getD x 0 = y := ⟨_, rfl⟩
        rw [hy] at c3 htk
        have x0 : (0 : Int) ≤ (x : Int) := by omega
        have x1 : (x : Int) < (n : Int) := by omega
        have HTK := Lib.hid htk
        have HO := Lib.hid hown
        have HBW := Lib.hid hb
        have hTs : T ≤ wr.heap.size := by rw [HT.out]; exact hb.size
        clear htk hx hy hb
        go_wp2_with (at_builtin; refine wpList_append_own _ rfl _ _ 24 rfl T 3 i9 (.int .i64 0) 1 8 Try.underlying24 hi9 hz0 hz1 hz2 rfl (by decide) _ _ _ rfl (hown.alloc _) ⟨wr.heap.size, 0, none⟩ 1 1 [.int .i64 y] rfl rfl (cell_one_new _ _ _) (by intro u hu; simp at hu; subst hu; rfl) (by unfold maxLen; omega) (by omega) (by simp; omega) ?_; intro v' w6 hE2 hg2 hg3)
        have hb6 : Below T w4 w6 := (HBW.out.alloc (by have := HT.out; omega) _).grown hg2 (by have := HT.out; simp; omega) (fun j e => (HO.out.lt j e).1)
        have HE6 := Lib.hid hE2
        have HB6 := Lib.hid hb6
        clear hE2 hg2 hg3 hb6 hown
        go_wp2
        go_roundw
        case rel => exact ⟨k + 1, by omega, by go_num, by rw [HTK.out, List.map_append]; exact HE6.out, HB6.out⟩
        case measure => simp [intOf] <;> omega
      · have hkn2 : k = n := by omega
        have k1 : (n : Int) ≤ (k : Int) := by omega
        have htk : (O.map fun i => xs.getD i 0).take k = O.map fun i => xs.getD i 0 := List.take_of_length_le (by rw [List.length_map]; have := HOL.out; omega)
        rw [htk] at hown
        have hii := IsInts.of_own (base := T) (e := 3) (xs := O.map fun i => xs.getD i 0) (by rw [List.length_map, HOL.out, ← hkn2]; exact hown)
        have hen := refencode_any _ _ (by rw [List.length_map, HOL.out]; omega) wr hii
        unfold EncP at hen
        have HEN := Lib.hid hen
        have HBW := Lib.hid (HB4.out.trans (hb.mono (by rw [HT.out]; exact HB4.out.size)))
        clear hen hii htk hown hb hkn2
        go_wp2_with fail
        refine HEN.out.mono ?_
        rintro e w7 ⟨rfl, hb7⟩
        have HB7 := Lib.hid (HBW.out.trans (hb7.mono HBW.out.size))
        clear hb7
        go_wp2
        go_ret2
        exact ⟨rfl, HB7.out⟩
end Go.Proofs.Ytgefbagojghmeaa
