/-
  isolate.Balance: the encodings of the balanced form.
-/
import Derived.Test.YtgefbagojghmeaaIs1
import Derived.Test.YtgefbagojghmeaaU8W15
namespace Go.Proofs.Ytgefbagojghmeaa
open Go.RowKit

theorem init_any (c : Int) (w : World) : Calls Try.prog 34 #[.int .i64 c] w fun e w' => e = .returned (.bool (initB c)) ∧ w = w' := by
  by_cases h : 8294 ≤ c <;> by_cases h1 : c ≤ 8296
  all_goals first | (exfalso; omega) | skip
  all_goals
    go_enter Try.func34, Try.ntmps34
    go_wp2
    go_ret
    exact ⟨ret_bool (by simp [initB]; omega), rfl⟩
theorem Try.infoBool : (Try.prog.info? 4).map (fun i => (i.zero, i.size, i.bytes)) = some (some (.bool false), 1, 1) := by kernel_rfl

def BalanceP (xs : List Int) (w : World) (e : Ending) (w' : World) : Prop := e = .returned (.string (encS (bal xs))) ∧ Below w.heap.size w w'

set_option maxRecDepth 100000 in
set_option maxHeartbeats 1000000 in
theorem balance_any (s : ByteArray) (hs : s.size ≤ 10000) (w : World) : Calls Try.prog 31 #[.string s] w (BalanceP (ints (U8.els s.data.toList)) w) := by
  obtain ⟨i0, hi, hz0, hz1, hz2⟩ := info_parts Try.infoBool
  have hle := U8.els_len s.data.toList
  rw [U8.size_len] at hle
  have hli : (ints (U8.els s.data.toList)).length ≤ 10000 := by unfold ints; rw [List.length_map]; omega
  have hd := decode_any s (by omega)
  unfold DecP at hd
  obtain ⟨xs, hxs⟩ : ∃ xs, ints (U8.els s.data.toList) = xs := ⟨_, rfl⟩
  rw [hxs] at hd hli
  rw [hxs]
  obtain ⟨n, hn⟩ : ∃ n, n = xs.length := ⟨_, rfl⟩
  rw [← hn] at hli
  have HN := Lib.hid hn
  have HD := Lib.hid hd
  clear hd hn hxs hle
  go_enter Try.func31, Try.ntmps31
  go_wp2_with fail
  refine (HD.out _).mono ?_
  rintro e w1 ⟨v, rfl, ho, hb1⟩
  have hb0 : Bld w.heap.size w.heap.size [] (w.alloc (.cells #[.pointer none, .slice none 0 0] 62)) := Lib.IsBuilderF.of (Lib.fresh_isBuilder _ _ w)
  have hb0' := bld_below hb0 hb1
  have HB0 := Lib.hid hb0'
  have HW1 := Lib.hid (((Below.refl _ _).alloc (Nat.le_refl _) _).trans (hb1.mono (by simp)) : Below w.heap.size w w1)
  have hii := IsInts.of_own ho
  obtain ⟨ao, ca, rfl, _⟩ := hii
  have hsrc0 : w1.ownsRow (w.heap.size + 1) 3 1 (.slice ao n ca) n (xs.map (Value.int .i64)) := by rw [HN.out]; simpa using ho
  rw [← HN.out]
  have HSRC := Lib.hid hsrc0
  clear ho hb1 hb0 hb0' hsrc0
  go_wp2
  go_loopw [4, 5, 7, 8, 9, 13] (fun o kp _ _ _ i wr => ∃ k : Nat, k ≤ n ∧ i = .int .i64 k ∧ kp = .int .i64 ((balRun (xs.take k)).2.1 : Nat) ∧ wr.ownsRow w.heap.size 4 1 o (balRun (xs.take k)).1.length ((balRun (xs.take k)).1.map Value.bool) ∧ Bld w.heap.size w.heap.size (Lib.byteCells (encL (balRun (xs.take k)).2.2)) wr ∧ wr.ownsRow (w.heap.size + 1) 3 1 (.slice ao n ca) n (xs.map (Value.int .i64)) ∧ Below w.heap.size w wr) (fun _ _ _ _ _ i _ => n - (intOf i).toNat)
  case atStart => exact ⟨0, Nat.zero_le _, rfl, rfl, World.ownsRow_nil _ _ _ _, HB0.out, HSRC.out, HW1.out⟩
  case round =>
    obtain ⟨k, hk, rfl, rfl, hown, hbld, hsrc, hbel⟩ := hrel
    have hok := balRun_ok (xs.take k)
    rw [List.length_take] at hok
    obtain ⟨⟨op, kp, out⟩, hst⟩ : ∃ st, balRun (xs.take k) = st := ⟨_, rfl⟩
    rw [hst] at hok hown hbld
    rw [hst]
    dsimp only at hok hown hbld ⊢
    obtain ⟨hk1, hk2, hk3, hk4⟩ := hok
    dsimp only at hk1 hk2 hk3 hk4
    have hol := encL_len out
    have hk3 : op.length ≤ k := Nat.le_trans hk3 (Nat.min_le_left _ _)
    have hk4 : out.length ≤ k := Nat.le_trans hk4 (Nat.min_le_left _ _)
    have hol : (encL out).length + 4 ≤ 100000 := by omega
    have HOL := Lib.hid hol
    by_cases hlt : k < n
    · have hnx := balRun_more (xs := xs) (k := k) (by have := HN.out; omega)
      have hii := IsInts.of_own (w := wr) (base := w.heap.size + 1) (e := 3) (v := .slice ao n ca) (xs := xs) (by rw [← HN.out]; exact hsrc)
      obtain ⟨ao', ca', hvv, ha⟩ := hii
      rw [← HN.out] at hvv
      cases hvv
      obtain ⟨b, o, rfl, hbw, hcl⟩ := ha (by have := HN.out; omega)
      have c1 := hcl k (by have := HN.out; omega)
      obtain ⟨x, hx'⟩ : ∃ x, xs.getD k 0 = x := ⟨_, rfl⟩
      rw [hx'] at c1 hnx
      rw [hst] at hnx
      have k0 : (0 : Int) ≤ (k : Int) := by omega
      have k1 : (k : Int) < (n : Int) := by omega
      have HBE := Lib.hid hbel
      clear ha hcl hx' hst hol hbw hbel
      unfold balStep at hnx
      by_cases hxi : initB x = true
      · rw [if_pos hxi] at hnx
        by_cases h8 : kp < 8
        · rw [if_pos h8] at hnx
          have HST := Lib.hid hnx
          dsimp only at HST
          have HSR0 := Lib.hid hsrc
          have HB00 := Lib.hid hbld
          have k8 : (kp : Int) < 8 := by omega
          clear hnx hsrc hbld
          go_wp2_with fail
          refine (init_any _ _).mono ?_
          rintro e w2 ⟨rfl, rfl⟩
          rw [hxi]
          go_wp2_with (at_builtin; refine wpList_append_own _ rfl _ _ 63 rfl w.heap.size 4 i0 (.bool false) 1 1 Try.underlying63 hi hz0 hz1 hz2 rfl (by decide) _ _ _ rfl (hown.alloc _) ⟨wr.heap.size, 0, none⟩ 1 1 [.bool true] rfl rfl (cell_one_new _ _ _) (by intro u hu; simp at hu; subst hu; rfl) (by unfold maxLen; omega) (by omega) (by have := HBE.out.size; simp; omega) ?_; intro v' w3 hown' hgrow _)
          have hg : (wr.alloc (.cells #[.bool true] 4)).grownBy w3 u4.ownBlock := hgrow
          have hka := own_kind (hown.alloc (.cells #[.bool true] 4))
          have HBL := Lib.hid (bld_grown (bld_below HB00.out ((Below.refl _ _).alloc (Nat.le_refl _) _)) hg hka (by decide) (by decide))
          have HSR := Lib.hid (own_grown (own_keep HSR0.out ((Below.refl _ _).alloc (Nat.le_refl _) _)) hg hka (by decide))
          have HBE := Lib.hid ((HBE.out.alloc HBE.out.size _).grown hg (by have := HBE.out.size; simp; omega) (fun k e => (own_from hown k e)))
          have hown2 : w3.ownsRow w.heap.size 4 1 v' (op ++ [true]).length ((op ++ [true]).map Value.bool) := by simpa using hown'
          have HOW := Lib.hid hown2
          clear hown hown' hown2 hg hgrow hka
          go_wp2_with fail
          refine (encode_any (.slice (some ⟨_, 0, none⟩) 1 1) [x] (by simp) _ ((IsInts.new _ 3 [x]).more (by simp))).mono ?_
          rintro e w4 ⟨rfl, hb4⟩
          have hbl4 := bld_below (bld_below HBL.out ((Below.refl _ _).alloc (Nat.le_refl _) _)) hb4
          have hsr4 := own_keep (own_keep HSR.out ((Below.refl _ _).alloc (Nat.le_refl _) _)) hb4
          have how4 := own_keep (own_keep HOW.out ((Below.refl _ _).alloc (Nat.le_refl _) _)) hb4
          have hbe4 := (HBE.out.alloc HBE.out.size _).trans (hb4.mono (by have := HBE.out.size; simp; omega))
          have hes := encS_size [x]
          obtain ⟨t, ht⟩ : ∃ t, encS [x] = t := ⟨_, rfl⟩
          have htc := encS_data [x]
          rw [ht] at hes htc
          rw [ht]
          have HBL4 := Lib.hid hbl4
          have HSR4 := Lib.hid hsr4
          have HOW4 := Lib.hid how4
          have HBE4 := Lib.hid hbe4
          have HTC := Lib.hid htc
          have hts : t.size ≤ 4 := hes
          clear hbl4 hsr4 how4 hbe4 hb4 htc hes ht
          go_wp2_with fail
          refine (writeString_any _ _ _ t _ HBL4.out (by rw [Lib.byteCells_length]; have := HOL.out; omega) HBE4.out.size).mono ?_
          rintro e w5 ⟨rfl, hb5, hbe5, hot5⟩
          have hb5' : Bld w.heap.size w.heap.size (Lib.byteCells (encL (out ++ [x]))) w5 := by rw [encL_app, Lib.byteCells_append, ← HTC.out]; exact .inr hb5
          have HB5 := Lib.hid hb5'
          have HS5 := Lib.hid (own_kept HSR4.out HBL4.out hot5 (by decide) (by decide))
          have HO5 := Lib.hid (own_kept HOW4.out HBL4.out hot5 (by decide) (by decide))
          have HE5 := Lib.hid (HBE4.out.trans hbe5)
          clear hb5 hb5' hbe5 hot5
          go_wp2
          go_roundw
          case rel => exact ⟨k + 1, by omega, by go_num, by rw [HST.out]; all_goals rfl, by rw [HST.out]; exact HO5.out, by rw [HST.out]; exact HB5.out, HS5.out, HE5.out⟩
          case measure => simp [intOf]; omega
        · rw [if_neg h8] at hnx
          have HST := Lib.hid hnx
          dsimp only at HST
          have HSR0 := Lib.hid hsrc
          have HB00 := Lib.hid hbld
          have k8 : decide ((kp : Int) < 8) = false := by simp; omega
          clear hnx hsrc hbld
          go_wp2_with fail
          refine (init_any _ _).mono ?_
          rintro e w2 ⟨rfl, rfl⟩
          rw [hxi]
          go_wp2_with (at_builtin; refine wpList_append_own _ rfl _ _ 63 rfl w.heap.size 4 i0 (.bool false) 1 1 Try.underlying63 hi hz0 hz1 hz2 rfl (by decide) _ _ _ rfl (hown.alloc _) ⟨wr.heap.size, 0, none⟩ 1 1 [.bool false] rfl rfl (cell_one_new _ _ _) (by intro u hu; simp at hu; subst hu; rfl) (by unfold maxLen; omega) (by omega) (by have := HBE.out.size; simp; omega) ?_; intro v' w3 hown' hgrow _)
          have hg : (wr.alloc (.cells #[.bool false] 4)).grownBy w3 u4.ownBlock := hgrow
          have hka := own_kind (hown.alloc (.cells #[.bool false] 4))
          have HBL := Lib.hid (bld_grown (bld_below HB00.out ((Below.refl _ _).alloc (Nat.le_refl _) _)) hg hka (by decide) (by decide))
          have HSR := Lib.hid (own_grown (own_keep HSR0.out ((Below.refl _ _).alloc (Nat.le_refl _) _)) hg hka (by decide))
          have HBE := Lib.hid ((HBE.out.alloc HBE.out.size _).grown hg (by have := HBE.out.size; simp; omega) (fun k e => (own_from hown k e)))
          have hown2 : w3.ownsRow w.heap.size 4 1 v' (op ++ [false]).length ((op ++ [false]).map Value.bool) := by simpa using hown'
          have HOW := Lib.hid hown2
          clear hown hown' hown2 hg hgrow hka
          go_wp2
          go_roundw
          case rel => exact ⟨k + 1, by omega, by go_num, by rw [HST.out], by rw [HST.out]; exact HOW.out, by rw [HST.out]; exact HBL.out, HSR.out, HBE.out⟩
          case measure => simp [intOf]; omega
      · rw [if_neg hxi] at hnx
        have hxi0 : initB x = false := by simpa using hxi
        obtain ⟨ao2, cap2, rfl⟩ : ∃ ao2 cap2, u4 = .slice ao2 op.length cap2 := by
          rcases hown.2 with ⟨hv, h0⟩ | ⟨g, cap, cur, hv, _⟩
          · exact ⟨none, 0, by rw [hv, h0]⟩
          · exact ⟨_, _, hv⟩
        clear hxi
        by_cases hxt : x = 8297
        · have hxt' : termB x = true := by simp [termB, hxt]
          rw [if_pos hxt'] at hnx
          by_cases hop : op = []
          · subst hop
            rw [if_pos rfl] at hnx
            have HST := Lib.hid hnx
            have HSR := Lib.hid hsrc
            have HBL := Lib.hid hbld
            have HOW := Lib.hid hown
            clear hnx hsrc hbld hown hxt'
            subst hxt
            go_wp2_with fail
            refine (init_any _ _).mono ?_
            rintro e w2 ⟨rfl, rfl⟩
            rw [hxi0]
            go_wp2
            go_roundw
            case rel => exact ⟨k + 1, by omega, by go_num, by rw [HST.out], by rw [HST.out]; exact HOW.out, by rw [HST.out]; exact HBL.out, HSR.out, HBE.out⟩
            case measure => simp [intOf]; omega
          · rw [if_neg hop] at hnx
            have hcl := count_last hop
            obtain ⟨ys, y, rfl⟩ : ∃ ys y, op = ys ++ [y] := ⟨_, _, (List.dropLast_concat_getLast hop).symm⟩
            rw [List.dropLast_concat, List.getLastD_concat] at hnx hcl
            obtain ⟨m, hm⟩ : ∃ m, m = ys.length := ⟨_, rfl⟩
            rw [List.length_append, List.length_singleton, ← hm] at hown hk3
            rw [List.length_append, List.length_singleton, ← hm]
            obtain ⟨g, rfl, c2⟩ := own_last hown (.bool y) (by rw [hm]; simp)
            have hless := own_less hown
            have hless2 : wr.ownsRow w.heap.size 4 1 (.slice (some ⟨g, 0, none⟩) m cap2) ys.length (ys.map Value.bool) := by
              rw [← hm]; simpa using hless
            have HOW := Lib.hid hless2
            have HSR := Lib.hid hsrc
            have HBL := Lib.hid hbld
            have hcap : m + 1 ≤ cap2 := by
              rcases hown.2 with ⟨hv, _⟩ | ⟨g', cap', cur, hv, _, _, hc, _⟩
              · cases hv
              · cases hv; exact hc
            have HM := Lib.hid hm
            have m0 : (0 : Int) ≤ (m : Int) := by omega
            clear hless hless2 hown hsrc hbld hxt' hop hm
            subst hxt
            cases y
            · rw [if_neg (by decide)] at hnx
              have HST := Lib.hid hnx
              dsimp only at HST
              clear hnx
              go_wp2_with fail
              refine (init_any _ _).mono ?_
              rintro e w2 ⟨rfl, rfl⟩
              rw [hxi0]
              go_wp2
              go_roundw
              case rel => exact ⟨k + 1, by omega, by go_num, by rw [HST.out], by rw [HST.out]; exact HOW.out, by rw [HST.out]; exact HBL.out, HSR.out, HBE.out⟩
              case measure => simp [intOf]; omega
            · rw [if_pos rfl] at hnx hcl
              obtain ⟨q, rfl⟩ : ∃ q, kp = q + 1 := ⟨kp - 1, by omega⟩
              have HST := Lib.hid hnx
              dsimp only at HST
              rw [Nat.add_sub_cancel] at HST
              clear hnx hcl
              go_wp2_with fail
              refine (init_any _ _).mono ?_
              rintro e w2 ⟨rfl, rfl⟩
              rw [hxi0]
              go_wp2_with fail
              refine (encode_any (.slice (some ⟨_, 0, none⟩) 1 1) [8297] (by simp) _ ((IsInts.new _ 3 [8297]).more (by simp))).mono ?_
              rintro e w4 ⟨rfl, hb4⟩
              have hbl4 := bld_below (bld_below HBL.out ((Below.refl _ _).alloc (Nat.le_refl _) _)) hb4
              have hsr4 := own_keep (own_keep HSR.out ((Below.refl _ _).alloc (Nat.le_refl _) _)) hb4
              have how4 := own_keep (own_keep HOW.out ((Below.refl _ _).alloc (Nat.le_refl _) _)) hb4
              have hbe4 := (HBE.out.alloc HBE.out.size _).trans (hb4.mono (by have := HBE.out.size; simp; omega))
              have hes := encS_size [8297]
              obtain ⟨t, ht⟩ : ∃ t, encS [8297] = t := ⟨_, rfl⟩
              have htc := encS_data [8297]
              rw [ht] at hes htc
              rw [ht]
              have HBL4 := Lib.hid hbl4
              have HSR4 := Lib.hid hsr4
              have HOW4 := Lib.hid how4
              have HBE4 := Lib.hid hbe4
              have HTC := Lib.hid htc
              have hts : t.size ≤ 4 := hes
              clear hbl4 hsr4 how4 hbe4 hb4 htc hes ht
              go_wp2_with fail
              refine (writeString_any _ _ _ t _ HBL4.out (by rw [Lib.byteCells_length]; have := HOL.out; omega) HBE4.out.size).mono ?_
              rintro e w5 ⟨rfl, hb5, hbe5, hot5⟩
              have hb5' : Bld w.heap.size w.heap.size (Lib.byteCells (encL (out ++ [8297]))) w5 := by rw [encL_app, Lib.byteCells_append, ← HTC.out]; exact .inr hb5
              have HB5 := Lib.hid hb5'
              have HS5 := Lib.hid (own_kept HSR4.out HBL4.out hot5 (by decide) (by decide))
              have HO5 := Lib.hid (own_kept HOW4.out HBL4.out hot5 (by decide) (by decide))
              have HE5 := Lib.hid (HBE4.out.trans hbe5)
              clear hb5 hb5' hbe5 hot5
              go_wp2
              go_roundw
              case rel => exact ⟨k + 1, by omega, by go_num, by rw [HST.out]; all_goals go_num, by rw [HST.out]; exact HO5.out, by rw [HST.out]; exact HB5.out, HS5.out, HE5.out⟩
              case measure => simp [intOf]; omega
        · have hxt' : ¬ termB x = true := by simp [termB, hxt]
          rw [if_neg hxt'] at hnx
          have HST := Lib.hid hnx
          dsimp only at HST
          have HSR := Lib.hid hsrc
          have HBL := Lib.hid hbld
          have HOW := Lib.hid hown
          clear hnx hsrc hbld hown hxt'
          go_wp2_with fail
          refine (init_any _ _).mono ?_
          rintro e w2 ⟨rfl, rfl⟩
          rw [hxi0]
          go_wp2_with fail
          refine (encode_any (.slice (some ⟨_, 0, none⟩) 1 1) [x] (by simp) _ ((IsInts.new _ 3 [x]).more (by simp))).mono ?_
          rintro e w4 ⟨rfl, hb4⟩
          have hbl4 := bld_below (bld_below HBL.out ((Below.refl _ _).alloc (Nat.le_refl _) _)) hb4
          have hsr4 := own_keep (own_keep HSR.out ((Below.refl _ _).alloc (Nat.le_refl _) _)) hb4
          have how4 := own_keep (own_keep HOW.out ((Below.refl _ _).alloc (Nat.le_refl _) _)) hb4
          have hbe4 := (HBE.out.alloc HBE.out.size _).trans (hb4.mono (by have := HBE.out.size; simp; omega))
          have hes := encS_size [x]
          obtain ⟨t, ht⟩ : ∃ t, encS [x] = t := ⟨_, rfl⟩
          have htc := encS_data [x]
          rw [ht] at hes htc
          rw [ht]
          have HBL4 := Lib.hid hbl4
          have HSR4 := Lib.hid hsr4
          have HOW4 := Lib.hid how4
          have HBE4 := Lib.hid hbe4
          have HTC := Lib.hid htc
          have hts : t.size ≤ 4 := hes
          clear hbl4 hsr4 how4 hbe4 hb4 htc hes ht
          go_wp2_with fail
          refine (writeString_any _ _ _ t _ HBL4.out (by rw [Lib.byteCells_length]; have := HOL.out; omega) HBE4.out.size).mono ?_
          rintro e w5 ⟨rfl, hb5, hbe5, hot5⟩
          have hb5' : Bld w.heap.size w.heap.size (Lib.byteCells (encL (out ++ [x]))) w5 := by rw [encL_app, Lib.byteCells_append, ← HTC.out]; exact .inr hb5
          have HB5 := Lib.hid hb5'
          have HS5 := Lib.hid (own_kept HSR4.out HBL4.out hot5 (by decide) (by decide))
          have HO5 := Lib.hid (own_kept HOW4.out HBL4.out hot5 (by decide) (by decide))
          have HE5 := Lib.hid (HBE4.out.trans hbe5)
          clear hb5 hb5' hbe5 hot5
          go_wp2
          go_roundw
          case rel => exact ⟨k + 1, by omega, by go_num, by rw [HST.out]; all_goals rfl, by rw [HST.out]; exact HO5.out, by rw [HST.out]; exact HB5.out, HS5.out, HE5.out⟩
          case measure => simp [intOf]; omega
    · have hend : balRun xs = (op, kp, out) := by rwa [List.take_of_length_le (by have := HN.out; omega)] at hst
      have hres : bal xs = out ++ List.replicate kp 8297 := by unfold bal; rw [hend]
      have HRES := Lib.hid hres
      have HBL := Lib.hid hbld
      have HBE := Lib.hid hbel
      have k1 : (n : Int) ≤ (k : Int) := by omega
      clear hend hres hst hbld hbel hown hsrc
      go_wp2
      go_loopw [57] (fun i wr => ∃ j : Nat, j ≤ kp ∧ i = .int .i64 j ∧ Bld w.heap.size w.heap.size (Lib.byteCells (encL (out ++ List.replicate j 8297))) wr ∧ Below w.heap.size w wr) (fun i _ => kp - (intOf i).toNat)
      case atStart => exact ⟨0, Nat.zero_le _, rfl, by simpa using HBL.out, HBE.out⟩
      case round =>
        obtain ⟨j, hj, rfl, hb, hbe⟩ := hrel
        have hlj : (encL (out ++ List.replicate j 8297)).length + 4 ≤ 100100 := by
          rw [encL_app, List.length_append]
          have := encL_len (List.replicate j 8297)
          rw [List.length_replicate] at this
          have := HOL.out
          omega
        have HLJ := Lib.hid hlj
        have j0 : (0 : Int) ≤ (j : Int) := by omega
        clear hlj
        by_cases hlt : j < kp
        · have j1 : (j : Int) < (kp : Int) := by omega
          have HB := Lib.hid hb
          have HE := Lib.hid hbe
          clear hb hbe
          go_wp2_with fail
          refine (encode_any (.slice (some ⟨_, 0, none⟩) 1 1) [8297] (by simp) _ ((IsInts.new _ 3 [8297]).more (by simp))).mono ?_
          rintro e w4 ⟨rfl, hb4⟩
          have hbl4 := bld_below (bld_below HB.out ((Below.refl _ _).alloc (Nat.le_refl _) _)) hb4
          have hbe4 := (HE.out.alloc HE.out.size _).trans (hb4.mono (by have := HE.out.size; simp; omega))
          have hes := encS_size [8297]
          obtain ⟨t, ht⟩ : ∃ t, encS [8297] = t := ⟨_, rfl⟩
          have htc := encS_data [8297]
          rw [ht] at hes htc
          rw [ht]
          have HBL4 := Lib.hid hbl4
          have HBE4 := Lib.hid hbe4
          have HTC := Lib.hid htc
          have hts : t.size ≤ 4 := hes
          clear hbl4 hbe4 hb4 htc hes ht
          go_wp2_with fail
          refine (writeString_any _ _ _ t _ HBL4.out (by rw [Lib.byteCells_length]; have := HLJ.out; omega) HBE4.out.size).mono ?_
          rintro e w5 ⟨rfl, hb5, hbe5, hot5⟩
          have hb5' : Bld w.heap.size w.heap.size (Lib.byteCells (encL (out ++ List.replicate (j + 1) 8297))) w5 := by rw [List.replicate_succ', ← List.append_assoc, encL_app _ [8297], Lib.byteCells_append, ← HTC.out]; exact .inr hb5
          have HB5 := Lib.hid hb5'
          have HE5 := Lib.hid (HBE4.out.trans hbe5)
          clear hb5 hb5' hbe5 hot5
          go_wp2
          go_roundw
          case rel => exact ⟨j + 1, by omega, by go_num, HB5.out, HE5.out⟩
          case measure => simp [intOf]; omega
        · have hjk : j = kp := by omega
          subst hjk
          rw [← HRES.out] at hb
          have HB := Lib.hid hb
          have HE := Lib.hid hbe
          clear hb hbe
          go_wp2_with fail
          refine (Any.Builder_String_any_k Try.layB169 Try.layBx _ _ _ _ HB.out HE.out.size).mono ?_
          rintro e w6 ⟨rfl, _, hbe6, _⟩
          have HE6 := Lib.hid (HE.out.trans hbe6)
          clear hbe6
          go_wp2
          go_ret
          exact ⟨rfl, HE6.out⟩
end Go.Proofs.Ytgefbagojghmeaa
