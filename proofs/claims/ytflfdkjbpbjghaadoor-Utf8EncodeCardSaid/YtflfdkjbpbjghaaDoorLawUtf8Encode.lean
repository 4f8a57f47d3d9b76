/-
  The law Utf8Encode: Encode returns the encodings of numbers, and Decode returns code points from them.
-/
import Derived.Test.YtflfdkjbpbjghaaDoorU8In
import Derived.Test.YtflfdkjbpbjghaaDoorU8W17
import Derived.Test.YtflfdkjbpbjghaaDoorU8W9
namespace Go.Proofs.YtflfdkjbpbjghaaDoor
open Go.RowKit

theorem encS_valid (xs : List Int) : Lib.validD (encS xs).data.toList = true := by
  unfold encS
  exact U8.valid_encN _ (fun n hn => by obtain ⟨x, _, rfl⟩ := List.mem_map.1 hn; exact norm_pt x)
theorem encS_dec (xs : List Int) (h : ∀ x ∈ xs, pointB x = true) : ints (U8.els (encS xs).data.toList) = xs := by
  unfold encS
  have e : U8.els (U8.encN (xs.map norm)).toArray.toList = xs.map norm := U8.els_encN _ (fun n hn => by obtain ⟨x, _, rfl⟩ := List.mem_map.1 hn; exact norm_pt x)
  rw [e]
  unfold ints
  rw [List.map_map]
  refine (List.map_congr_left (g := id) (fun x hx => ?_)).trans (List.map_id _)
  have hp := h x hx
  show ((norm x : Nat) : Int) = x
  unfold norm
  rw [if_pos hp]
  simp [pointB] at hp
  omega
theorem all_snoc {xs : List Int} {k : Nat} (hk : k < xs.length) : (xs.take (k + 1)).all pointB = ((xs.take k).all pointB && pointB (xs.getD k 0)) := by
  rw [take_more hk, List.all_append]; simp

set_option maxRecDepth 100000 in
set_option maxHeartbeats 1000000 in
theorem law_Utf8Encode (v : Value) (xs : List Int) (w : World) (hT : Tabs w) (hv : IsInts w w.heap.size v xs) (hs : xs.length ≤ maxLen) : Calls Tryd.prog 5 #[v] w (TrueP w) := by
  unfold maxLen at hs
  have HT := Lib.hid hT
  clear hT
  have hvv := hv
  obtain ⟨ao, ca, rfl, ha⟩ := hv
  obtain ⟨n, hn⟩ : ∃ n, n = xs.length := ⟨_, rfl⟩
  rw [← hn] at ha hs
  have hvv : IsInts w w.heap.size (.slice ao n ca) xs := by rw [hn]; exact hvv
  have HV := Lib.hid hvv
  clear hvv
  rw [← hn]
  have HA := Lib.hid ha
  have HN := Lib.hid hn
  clear ha hn
  by_cases hl : 200 < n
  · go_enter Tryd.func5, Tryd.ntmps5
    go_wp2_with fail
    refine (awake_any _).mono ?_
    rintro e w1 ⟨rfl, hb1⟩
    have HB1 := Lib.hid hb1
    clear hb1
    go_wp2_with fail
    refine (awake_any _).mono ?_
    rintro e w2 ⟨rfl, hb2⟩
    have HB2 := Lib.hid (HB1.out.trans (hb2.mono HB1.out.size))
    clear hb2
    go_wp2
    go_ret
    exact ⟨rfl, HB2.out⟩
  · have hes := encS_size xs
    have hli : xs.length ≤ 1000000 := by have := HN.out; omega
    have hes : (encS xs).size ≤ 1000000 := by have := HN.out; omega
    have hd := decode_any (encS xs) hes
    have hv := fun W => valid_any (encS xs) hes W
    have he := fun v w h => encode_any v xs hli w h
    have hr := fun v w h => refencode_any v xs hli w h
    unfold DecP at hd
    unfold ValP at hv
    unfold EncodeP at he
    unfold EncP at hr
    have hv' : ∀ W, Tabs W → Calls Tryd.prog 11 #[.string (encS xs)] W fun e w' => e = .returned (.bool true) ∧ Below W.heap.size W w' := fun W h => by have := hv W h; rw [encS_valid] at this; exact this
    have hdec := encS_dec xs
    obtain ⟨t, ht⟩ : ∃ t, encS xs = t := ⟨_, rfl⟩
    rw [ht] at hd hv' hdec hes
    have he' : ∀ v w, IsInts w w.heap.size v xs → Calls Tryd.prog 15 #[v] w fun e w' => e = .returned (.string t) ∧ Below w.heap.size w w' := fun v w h => by have := he v w h; rw [ht] at this; exact this
    have hr' : ∀ v w, IsInts w w.heap.size v xs → Calls Tryd.prog 16 #[v] w fun e w' => e = .returned (.string t) ∧ Below w.heap.size w w' := fun v w h => by have := hr v w h; rw [ht] at this; exact this
    have HD := Lib.hid hd
    have HVA := Lib.hid hv'
    have HE := Lib.hid he'
    have HR := Lib.hid hr'
    have HDEC := Lib.hid hdec
    clear hd hv hv' he he' hr hr' hdec ht
    go_enter Tryd.func5, Tryd.ntmps5
    go_wp2_with fail
    refine (awake_any _).mono ?_
    rintro e w1 ⟨rfl, hb1⟩
    have HB1 := Lib.hid hb1
    clear hb1
    go_wp2
    go_loopw [3, 4] (fun b i wr => ∃ k : Nat, k ≤ n ∧ i = .int .i64 k ∧ b = .bool ((xs.take k).all pointB) ∧ Below w.heap.size w wr) (fun _ i _ => n - (intOf i).toNat)
    case atStart => exact ⟨0, Nat.zero_le _, rfl, rfl, HB1.out⟩
    case round =>
      obtain ⟨k, hk, rfl, rfl, hbel⟩ := hrel
      obtain ⟨c, hc⟩ : ∃ c, (xs.take k).all pointB = c := ⟨_, rfl⟩
      rw [hc]
      have HC := Lib.hid hc
      clear hc
      by_cases hlt : k < n
      · obtain ⟨b, o, rfl, hbw, hcl⟩ := HA.out (by have := HN.out; omega)
        have c1 := (hbel.cell (p := ⟨b, o + k, none⟩) hbw).trans (hcl k (by have := HN.out; omega))
        have hs2 := all_snoc (xs := xs) (k := k) (by have := HN.out; omega)
        obtain ⟨x, hx'⟩ : ∃ x, xs.getD k 0 = x := ⟨_, rfl⟩
        rw [hx'] at c1 hs2
        rw [HC.out] at hs2
        have HS := Lib.hid hs2
        have HBL := Lib.hid hbel
        have k0 : (0 : Int) ≤ (k : Int) := by omega
        have k1 : (k : Int) < (n : Int) := by omega
        clear hcl hx' hs2 hbel
        cases c
        · go_wp2
          go_roundw
          case rel => exact ⟨k + 1, by omega, by go_num, by rw [HS.out]; rfl, HBL.out⟩
          case measure => simp [intOf]; omega
        · go_wp2_with fail
          refine (point_any _ _).mono ?_
          rintro e w2 ⟨rfl, rfl⟩
          go_wp2
          go_roundw
          case rel => exact ⟨k + 1, by omega, by go_num, by rw [HS.out]; rfl, HBL.out⟩
          case measure => simp [intOf]; omega
      · have ht : xs.all pointB = c := by
          have := HC.out
          rwa [List.take_of_length_le (by have := HN.out; omega)] at this
        have HT2 := Lib.hid ht
        have HBL := Lib.hid hbel
        clear ht hbel
        have hi2 := (HV.out.below HBL.out).more HBL.out.size
        go_wp2_with fail
        refine (HE.out _ _ hi2).mono ?_
        rintro e w3 ⟨rfl, hb3⟩
        have HI3 := Lib.hid ((hi2.below hb3).more hb3.size)
        have HB3 := Lib.hid (HBL.out.trans (hb3.mono HBL.out.size))
        clear hb3 hi2
        go_wp2_with fail
        refine (HR.out _ _ HI3.out).mono ?_
        rintro e w4 ⟨rfl, hb4⟩
        have HI4 := Lib.hid ((HI3.out.below hb4).more hb4.size)
        have HB4 := Lib.hid (HB3.out.trans (hb4.mono HB3.out.size))
        clear hb4
        go_wp2_with fail
        refine (HVA.out _ (HT.out.below HB4.out)).mono ?_
        rintro e w5 ⟨rfl, hb5⟩
        have HI5 := Lib.hid ((HI4.out.below hb5).more hb5.size)
        have HB5 := Lib.hid (HB4.out.trans (hb5.mono HB4.out.size))
        clear hb5
        cases c
        · go_wp2
          go_ret
          exact ⟨rfl, HB5.out⟩
        · go_wp2_with fail
          refine (HD.out _).mono ?_
          rintro e w6 ⟨u, rfl, ho6, hb6⟩
          have HI6 := Lib.hid ((HI5.out.below hb6).more hb6.size)
          have HU6 := Lib.hid (IsInts.of_own ho6)
          have HB6 := Lib.hid (HB5.out.trans (hb6.mono HB5.out.size))
          clear hb6 ho6
          have hxs := HDEC.out (by simpa using HT2.out)
          rw [hxs] at HU6
          have HX := Lib.hid hxs
          clear hxs
          go_wp2_with fail
          refine (same_any u _ xs xs _ _ _ HU6.out HI6.out (by have := HN.out; omega)).mono ?_
          rintro e w7 ⟨rfl, hb7⟩
          have HB7 := Lib.hid (HB6.out.trans (hb7.mono HB6.out.size))
          clear hb7
          rw [decide_eq_true rfl]
          go_wp2
          go_ret
          exact ⟨rfl, HB7.out⟩
end Go.Proofs.YtflfdkjbpbjghaaDoor
