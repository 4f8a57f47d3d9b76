/-
  isolate.Wrap and isolate.Strip; the examples of layer 24.
-/
import Derived.Test.YtgefbagojghmeaaIs2
namespace Go.Proofs.Ytgefbagojghmeaa
open Go.RowKit

def wrapL (xs : List Int) : List Int := [8296] ++ bal xs ++ [8297]
def WrapP (xs : List Int) (w : World) (e : Ending) (w' : World) : Prop := e = .returned (.string (encS (wrapL xs))) ∧ Below w.heap.size w w'

set_option maxRecDepth 100000 in
set_option maxHeartbeats 1000000 in
theorem wrap_any (s : ByteArray) (hs : s.size ≤ 10000) (w : World) : Calls Try.prog 32 #[.string s] w (WrapP (ints (U8.els s.data.toList)) w) := by
  have hle := U8.els_len s.data.toList
  rw [U8.size_len] at hle
  have hli : (ints (U8.els s.data.toList)).length ≤ 10000 := by unfold ints; rw [List.length_map]; omega
  have hb := balance_any s hs
  unfold BalanceP at hb
  unfold WrapP wrapL
  obtain ⟨xs, hxs⟩ : ∃ xs, ints (U8.els s.data.toList) = xs := ⟨_, rfl⟩
  rw [hxs] at hb hli
  rw [hxs, encS_app, encS_app]
  have hz := encS_size (bal xs)
  have hz2 : (bal xs).length ≤ 10008 := by
    have := balRun_ok xs
    obtain ⟨_, h2, _, h4⟩ := this
    unfold bal
    rw [List.length_append, List.length_replicate]
    omega
  obtain ⟨t, ht⟩ : ∃ t, encS (bal xs) = t := ⟨_, rfl⟩
  rw [ht] at hb hz
  rw [ht]
  have h1 : (encS [8296]).size ≤ 4 := encS_size _
  have h2 : (encS [8297]).size ≤ 4 := encS_size _
  have he1 := fun v w h => encode_any v [8296] (by decide) w h
  have he2 := fun v w h => encode_any v [8297] (by decide) w h
  unfold EncodeP at he1 he2
  obtain ⟨t1, ht1⟩ : ∃ t, encS [8296] = t := ⟨_, rfl⟩
  obtain ⟨t2, ht2⟩ : ∃ t, encS [8297] = t := ⟨_, rfl⟩
  rw [ht1] at h1 he1
  rw [ht2] at h2 he2
  rw [ht1, ht2]
  have hts : t.size ≤ 40032 := by omega
  have HB := Lib.hid hb
  have HE1 := Lib.hid he1
  have HE2 := Lib.hid he2
  clear hb he1 he2 ht ht1 ht2 hxs hz hz2 hli hle
  go_enter Try.func32, Try.ntmps32
  go_wp2_with fail
  refine (HE1.out (.slice (some ⟨_, 0, none⟩) 1 1) _ ((IsInts.new _ 3 [8296]).more (by simp))).mono ?_
  rintro e w1 ⟨rfl, hb1⟩
  have HB1 := Lib.hid (((Below.refl _ _).alloc (Nat.le_refl _) _).trans (hb1.mono (by simp)) : Below w.heap.size w w1)
  clear hb1
  go_wp2_with fail
  refine (HB.out _).mono ?_
  rintro e w2 ⟨rfl, hb2⟩
  have HB2 := Lib.hid (HB1.out.trans (hb2.mono HB1.out.size))
  clear hb2
  go_wp2_with fail
  refine (HE2.out (.slice (some ⟨_, 0, none⟩) 1 1) _ ((IsInts.new _ 3 [8297]).more (by simp))).mono ?_
  rintro e w3 ⟨rfl, hb3⟩
  have HB3 := Lib.hid ((HB2.out.alloc HB2.out.size _).trans (hb3.mono (by have := HB2.out.size; simp; omega)))
  clear hb3
  go_wp2
  go_ret
  exact ⟨rfl, HB3.out⟩

def stripL (xs : List Int) : List Int := xs.filter fun c => !initB c && !termB c
theorem strip_more {xs : List Int} {k : Nat} (hk : k < xs.length) : stripL (xs.take (k + 1)) = stripL (xs.take k) ++ (if (!initB (xs.getD k 0) && !termB (xs.getD k 0)) = true then [xs.getD k 0] else []) := by
  rw [take_more hk]
  unfold stripL
  rw [List.filter_append]
  congr 1
  rw [List.filter_cons, List.filter_nil]
theorem stripL_len (xs : List Int) : (stripL xs).length ≤ xs.length := List.length_filter_le _ _
def StripP (xs : List Int) (w : World) (e : Ending) (w' : World) : Prop := e = .returned (.string (encS (stripL xs))) ∧ Below w.heap.size w w'

set_option maxRecDepth 100000 in
set_option maxHeartbeats 1000000 in
theorem strip_any (s : ByteArray) (hs : s.size ≤ 10000) (w : World) : Calls Try.prog 12 #[.string s] w (StripP (ints (U8.els s.data.toList)) w) := by
  obtain ⟨i0, hi, hz0, hz1, hz2⟩ := info_parts Try.infoInt
  have hle := U8.els_len s.data.toList
  rw [U8.size_len] at hle
  have hli : (ints (U8.els s.data.toList)).length ≤ 10000 := by unfold ints; rw [List.length_map]; omega
  have hd := decode_any s (by omega)
  unfold DecP at hd
  obtain ⟨xs, hxs⟩ : ∃ xs, ints (U8.els s.data.toList) = xs := ⟨_, rfl⟩
  rw [hxs] at hd hli
  rw [hxs]
  obtain ⟨n, hn⟩ : ∃ n, n = xs.length := ⟨_, rfl⟩
  rw [← hn] at hli
  have HN := Lib.hid hn
  have HD := Lib.hid hd
  clear hd hn hxs hle
  go_enter Try.func12, Try.ntmps12
  go_wp2_with fail
  refine (HD.out _).mono ?_
  rintro e w1 ⟨v, rfl, ho, hb1⟩
  have hii := IsInts.of_own ho
  obtain ⟨ao, ca, rfl, ha⟩ := hii
  rw [← HN.out] at ha
  rw [← HN.out]
  have HA := Lib.hid ha
  have HW1 := Lib.hid hb1
  clear ho hb1 ha
  go_wp2
  go_loopw [3, 5, 9] (fun v _ i wr => ∃ k : Nat, k ≤ n ∧ i = .int .i64 k ∧ wr.ownsRow w1.heap.size 3 1 v (stripL (xs.take k)).length ((stripL (xs.take k)).map (Value.int .i64)) ∧ Below w1.heap.size w1 wr) (fun _ _ i _ => n - (intOf i).toNat)
  case atStart => exact ⟨0, Nat.zero_le _, rfl, World.ownsRow_nil _ _ _ _, Below.refl _ _⟩
  case round =>
    obtain ⟨k, hk, rfl, hown, hbel⟩ := hrel
    have hsl := stripL_len (xs.take k)
    have hsl : (stripL (xs.take k)).length ≤ k := Nat.le_trans hsl (by rw [List.length_take]; exact Nat.min_le_left _ _)
    obtain ⟨ys, hys⟩ : ∃ ys, stripL (xs.take k) = ys := ⟨_, rfl⟩
    rw [hys] at hown hsl
    by_cases hlt : k < n
    · have hnx := strip_more (xs := xs) (k := k) (by have := HN.out; omega)
      obtain ⟨b, o, rfl, hbw, hcl⟩ := HA.out (by have := HN.out; omega)
      have c1 := (hbel.cell (p := ⟨b, o + k, none⟩) hbw).trans (hcl k (by have := HN.out; omega))
      obtain ⟨x, hx'⟩ : ∃ x, xs.getD k 0 = x := ⟨_, rfl⟩
      rw [hx'] at c1 hnx
      rw [hys] at hnx
      have k0 : (0 : Int) ≤ (k : Int) := by omega
      have k1 : (k : Int) < (n : Int) := by omega
      have HBE := Lib.hid hbel
      clear hcl hx' hys hbw hbel
      by_cases hxi : initB x = true
      · rw [if_neg (by rw [hxi]; simp), List.append_nil] at hnx
        have HST := Lib.hid hnx
        have HO := Lib.hid hown
        clear hnx hown
        go_wp2_with fail
        refine (init_any _ _).mono ?_
        rintro e w2 ⟨rfl, rfl⟩
        rw [hxi]
        go_wp2
        go_roundw
        case rel => exact ⟨k + 1, by omega, by go_num, by rw [HST.out]; exact HO.out, HBE.out⟩
        case measure => simp [intOf]; omega
      · have hxi0 : initB x = false := by simpa using hxi
        clear hxi
        by_cases hxt : x = 8297
        · have hxt' : termB x = true := by simp [termB, hxt]
          rw [if_neg (by rw [hxt']; simp), List.append_nil] at hnx
          have HST := Lib.hid hnx
          have HO := Lib.hid hown
          clear hnx hown hxt'
          subst hxt
          go_wp2_with fail
          refine (init_any _ _).mono ?_
          rintro e w2 ⟨rfl, rfl⟩
          rw [hxi0]
          go_wp2
          go_roundw
          case rel => exact ⟨k + 1, by omega, by go_num, by rw [HST.out]; exact HO.out, HBE.out⟩
          case measure => simp [intOf]; omega
        · have hxt' : termB x = false := by simp [termB, hxt]
          rw [if_pos (by rw [hxi0, hxt']; rfl)] at hnx
          have HST := Lib.hid hnx
          clear hnx hxt'
          go_wp2_with fail
          refine (init_any _ _).mono ?_
          rintro e w2 ⟨rfl, rfl⟩
          rw [hxi0]
          go_wp2_with (at_builtin; refine wpList_append_own _ rfl _ _ 24 rfl w1.heap.size 3 i0 (.int .i64 0) 1 8 Try.underlying24 hi hz0 hz1 hz2 rfl (by decide) _ _ _ rfl (hown.alloc _) ⟨wr.heap.size, 0, none⟩ 1 1 [.int .i64 x] rfl rfl (cell_one_new _ _ _) (by intro u hu; simp at hu; subst hu; rfl) (by unfold maxLen; omega) (by omega) (by have := HBE.out.size; simp; omega) ?_; intro v' w3 hown' hgrow _)
          have hg : (wr.alloc (.cells #[.int .i64 x] 3)).grownBy w3 u3.ownBlock := hgrow
          have HB3 := Lib.hid ((HBE.out.alloc HBE.out.size _).grown hg (by have := HBE.out.size; simp; omega) (fun k e => (own_from hown k e)))
          have hown2 : w3.ownsRow w1.heap.size 3 1 v' (ys ++ [x]).length ((ys ++ [x]).map (Value.int .i64)) := by simpa using hown'
          have HO := Lib.hid hown2
          clear hown hown' hown2 hg hgrow
          go_wp2
          go_roundw
          case rel => exact ⟨k + 1, by omega, by go_num, by rw [HST.out]; exact HO.out, HB3.out⟩
          case measure => simp [intOf]; omega
    · have hend : stripL xs = ys := by rwa [List.take_of_length_le (by have := HN.out; omega)] at hys
      have HEND := Lib.hid hend
      have HO := Lib.hid (IsInts.of_own hown)
      have HBE := Lib.hid (HW1.out.trans (hbel.mono HW1.out.size))
      have k1 : (n : Int) ≤ (k : Int) := by omega
      have hyl : ys.length ≤ 1000000 := by omega
      clear hend hys hbel hown
      go_wp2_with fail
      refine (encode_any _ ys hyl _ HO.out).mono ?_
      rintro e w4 ⟨rfl, hb4⟩
      have HB4 := Lib.hid (HBE.out.trans (hb4.mono HBE.out.size))
      clear hb4
      go_wp2
      go_ret
      unfold StripP
      rw [HEND.out]
      exact ⟨rfl, HB4.out⟩
end Go.Proofs.Ytgefbagojghmeaa
