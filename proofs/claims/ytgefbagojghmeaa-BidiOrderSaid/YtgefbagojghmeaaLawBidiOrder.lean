/-
  The law BidiOrder: the order is the specified one, a permutation, and keeps neighbours.
-/
import Derived.Test.YtgefbagojghmeaaOr4
import Derived.Test.YtgefbagojghmeaaLawBidiLevels
namespace Go.Proofs.Ytgefbagojghmeaa
open Go.RowKit

theorem places_zero (a : List Nat) (n : Nat) : places a n 0 = List.replicate n (-1) := rfl
theorem fill_neg {n k : Nat} (hk : k < n) : (List.replicate k (-1 : Int) ++ List.replicate (n - k) 0).set k (-1) = List.replicate (k + 1) (-1) ++ List.replicate (n - (k + 1)) 0 := by
  rw [List.set_append_right _ _ (by simp), List.length_replicate, Nat.sub_self, show n - k = (n - (k + 1)) + 1 by omega, List.replicate_succ, List.set_cons_zero, List.replicate_succ']
  simp
theorem places_range {a : List Nat} {n : Nat} (hn : a.Nodup) (hlt : ∀ x ∈ a, x < n) (hl : a.length = n) (hp : a.Perm (List.range n)) (i : Nat) (hi : i < n) : 0 ≤ (places a n n).getD i 0 ∧ (places a n n).getD i 0 < n := by
  have hm : i ∈ a := hp.mem_iff.2 (List.mem_range.2 hi)
  obtain ⟨j, hj, rfl⟩ := List.getElem_of_mem hm
  have := (places_at hn hlt n (by omega)).1 j (by omega)
  have e : a.getD j 0 = a[j] := by simp [List.getD, hj]
  rw [e] at this
  rw [this]
  omega

set_option maxRecDepth 100000 in
set_option maxHeartbeats 4000000 in
theorem law_BidiOrder (v : Value) (lv : List Int) (w : World) (hv : IsInts w w.heap.size v lv) (hl : lv.length ≤ maxLen) : Calls Try.prog 7 #[v] w (TrueP w) := by
  unfold maxLen at hl
  by_cases h100 : 100 < lv.length
  · obtain ⟨ao, ca, rfl, _⟩ := hv
    go_enter Try.func7, Try.ntmps7
    go_wp2_with fail
    refine (awake23_any _).mono ?_
    rintro e w1 ⟨rfl, hb1⟩
    have HB1 := Lib.hid hb1
    clear hb1
    go_wp2_with fail
    refine (awake23_any _).mono ?_
    rintro e w2 ⟨rfl, hb2⟩
    have HB2 := Lib.hid (HB1.out.trans (hb2.mono HB1.out.size))
    clear hb2
    go_wp2
    go_ret
    exact ⟨rfl, HB2.out⟩
  · have h1 := fun W (h : Below w.heap.size w W) => order_any v lv w.heap.size W (hv.below h) h.size (by omega)
    have h2 := fun W (h : Below w.heap.size w W) => reforder_any v lv w.heap.size W (hv.below h) h.size (by omega)
    have hlc : ∀ W (_ : Below w.heap.size w W) (j : Nat), j < lv.length → ∀ ao ca, v = .slice ao lv.length ca → ∃ b o, ao = some ⟨b, o, none⟩ ∧ b < w.heap.size ∧ W.cell? ⟨b, o + j, none⟩ = some (.int .i64 (lv.getD j 0)) := by
      intro W h j hj ao ca hva
      obtain ⟨ao', ca', hva', hc⟩ := hv
      rw [hva] at hva'
      cases hva'
      obtain ⟨b, o, hb, hbB, hcl⟩ := hc (by omega)
      exact ⟨b, o, hb, hbB, (h.cell (p := ⟨b, o + j, none⟩) hbB).trans (hcl j hj)⟩
    obtain ⟨ao, ca, rfl, _⟩ := hv
    have hlc := fun W h j hj => hlc W h j hj ao ca rfl
    obtain ⟨n, hn⟩ : ∃ n, n = lv.length := ⟨_, rfl⟩
    rw [← hn] at h1 h2 h100 hlc
    rw [← hn]
    have hno : okLv lv = false → order lv = [] := by
      intro h
      unfold order
      rw [h]
      rfl
    have hyes : okLv lv = true → (order lv).length = n ∧ (order lv).Nodup ∧ (∀ x ∈ order lv, x < n) ∧ (order lv).Perm (List.range n) := by
      intro h
      rw [hn]
      exact ⟨order_len h, order_nodup h, order_lt h, order_perm h⟩
    have hlaw : okLv lv = true → ∀ i, i + 1 < n → lv.getD i 0 = lv.getD (i + 1) 0 → (places (order lv) n n).getD (i + 1) 0 - (places (order lv) n n).getD i 0 = 1 - 2 * (lv.getD i 0 % 2) := by
      intro h i hi he
      rw [hn]
      exact order_law h (by omega) he
    have hrange : okLv lv = true → ∀ i, i < n → 0 ≤ lv.getD i 0 ∧ lv.getD i 0 ≤ 100 := fun h i hi => okLv_at h (by omega)
    obtain ⟨O, hO⟩ : ∃ O, order lv = O := ⟨_, rfl⟩
    rw [hO] at h1 h2 hno hyes hlaw
    have hOl : O.length ≤ n := by
      cases hk : okLv lv with
      | false => rw [hno hk]; exact Nat.zero_le _
      | true => exact Nat.le_of_eq (hyes hk).1
    have hmk := run_make_row' (P := Try.prog) 24 3 (.int .i64 0) 8 Try.underlying24 Try.infoInt rfl .i64 .i64 n (by omega) (by omega)
    have H1 := Lib.hid h1
    have H2 := Lib.hid h2
    have HLC := Lib.hid hlc
    have HNO := Lib.hid hno
    have HYES := Lib.hid hyes
    have HLAW := Lib.hid hlaw
    have HRANGE := Lib.hid hrange
    have hsame := fun W (u1 u2 : Value) (B1 B2 : Nat) (q1 : IsInts W B1 u1 (natI O)) (q2 : IsInts W B2 u2 (natI O)) => same_any u1 u2 (natI O) (natI O) B1 B2 W q1 q2 (by rw [natI_len]; omega)
    have HSAME := Lib.hid hsame
    clear h1 h2 hlc hno hyes hlaw hn hO hl hrange hsame
    go_enter Try.func7, Try.ntmps7
    go_wp2_with fail
    refine (awake23_any _).mono ?_
    rintro e w1 ⟨rfl, hb1⟩
    have HB1 := Lib.hid hb1
    clear hb1
    go_wp2_with fail
    refine (H1.out _ HB1.out).mono ?_
    rintro e w2 ⟨r2, rfl, hi2, hb2⟩
    have HI2 := Lib.hid hi2
    have HB2 := Lib.hid (HB1.out.trans (hb2.mono HB1.out.size))
    clear hi2 hb2
    go_wp2_with fail
    refine (H2.out _ HB2.out).mono ?_
    rintro e w3 ⟨r3, rfl, hi3, hb3⟩
    have hi23 := HI2.out.below hb3
    have HI3 := Lib.hid hi3
    have HI23 := Lib.hid hi23
    have HB3 := Lib.hid (HB2.out.trans (hb3.mono HB2.out.size))
    have HBS3 := Lib.hid hb3
    clear hi3 hb3 hi23
    go_wp2_with fail
    refine (HSAME.out _ _ _ _ _ HI23.out HI3.out).mono ?_
    rintro e w4 ⟨rfl, hb4⟩
    rw [decide_eq_true rfl]
    have hi4 := (HI23.out.below (hb4.mono HBS3.out.size)).more (Nat.le_trans HBS3.out.size hb4.size)
    have HB4 := Lib.hid (HB3.out.trans (hb4.mono HB3.out.size))
    obtain ⟨ao2, ca2, rfl, hc2⟩ := hi4
    rw [natI_len] at hc2
    rw [natI_len]
    have HC2 := Lib.hid hc2
    clear hb4 hc2
    by_cases hz : O.length = 0
    · have hz' : (O.length : Int) = 0 := by omega
      go_wp2
      go_ret
      exact ⟨rfl, HB4.out⟩
    · have hok : okLv lv = true := by
        cases hk : okLv lv with
        | false => exact absurd (by rw [HNO.out hk]; rfl) hz
        | true => rfl
      obtain ⟨y1, y2, y3, y4⟩ := HYES.out hok
      have hlaw := HLAW.out hok
      have hrange := HRANGE.out hok
      have hplr := places_range y2 y3 y1 y4
      have hat := fun k hk => places_at y2 y3 k (by rw [y1]; exact hk)
      have hgl : ∀ k, k < n → O.getD k 0 < n := by
        intro k hk
        refine y3 _ ?_
        have hk' : k < O.length := by omega
        have e : O.getD k 0 = O[k] := by simp [List.getD, hk']
        rw [e]
        exact List.getElem_mem _
      have hn0 : 0 < n := by omega
      rw [y1] at hz ⊢
      have hc2 : ∀ W, Below w4.heap.size w4 W → ∀ k, k < n → ∃ b o, ao2 = some ⟨b, o, none⟩ ∧ b < w4.heap.size ∧ W.cell? ⟨b, o + k, none⟩ = some (.int .i64 (O.getD k 0 : Nat)) := by
        intro W hW k hk
        obtain ⟨b, o, hb, hbB, hcl⟩ := HC2.out (by omega)
        have := hcl k (by omega)
        rw [natI_at (by omega)] at this
        exact ⟨b, o, hb, hbB, (hW.cell (p := ⟨b, o + k, none⟩) hbB).trans this⟩
      have HC3 := Lib.hid hc2
      have HLAW := Lib.hid hlaw
      have HRANGE := Lib.hid hrange
      have HPLR := Lib.hid hplr
      have HAT := Lib.hid hat
      have HGL := Lib.hid hgl
      have HN0 := Lib.hid hn0
      have HY1 := Lib.hid y1
      have nz : ((n : Int) == 0) = false := by simp; omega
      clear hc2 hlaw hrange hplr hat hgl y1 y2 y3 y4 hok hz hn0 hOl
      go_wp2
      have hrow0 : RowW w4.heap.size (w4.alloc (.cells (madeCells #[.int .i64 0] n) 3)) (List.replicate n 0) := by
        rw [made_zero]
        exact heap_alloc_new w4 _
      have hbel0 : Below w4.heap.size w4 (w4.alloc (.cells (madeCells #[.int .i64 0] n) 3)) := (Below.refl _ _).alloc (Nat.le_refl _) _
      have hT4 : ∃ T4, T4 = w4.heap.size := ⟨_, rfl⟩
      obtain ⟨T4, hT4⟩ := hT4
      rw [← hT4] at hrow0 hbel0 ⊢
      generalize (w4.alloc (.cells (madeCells #[.int .i64 0] n) 3)) = wb at hrow0 hbel0 ⊢
      have HT4 := Lib.hid hT4
      have HROW0 := Lib.hid hrow0
      have HBEL0 := Lib.hid hbel0
      clear hT4 hrow0 hbel0
      go_loopw [5, 30] (fun _ cv wr => ∃ k : Nat, k ≤ n ∧ cv = .int .i64 k ∧ RowW T4 wr (List.replicate k (-1) ++ List.replicate (n - k) 0) ∧ Below T4 w4 wr) (fun _ cv _ => n - (intOf cv).toNat)
      case atStart => exact ⟨0, Nat.zero_le _, rfl, HROW0.out, HBEL0.out⟩
      case round =>
        obtain ⟨k, hk, rfl, hrow, hb⟩ := hrel
        have k0 : (0 : Int) ≤ (k : Int) := by omega
        by_cases hkn : k < n
        · have k1 : (k : Int) < (n : Int) := by omega
          have c1 := hrow.cell (i := k) (by simp; omega)
          have f1 := hrow.frozen k
          have hr2 := hrow.set k (-1)
          rw [fill_neg hkn] at hr2
          have hb2 := hb.setCell (p := ⟨T4, k, none⟩) (Nat.le_refl T4) (.int .i64 (-1))
          have HR2 := Lib.hid hr2
          have HB2 := Lib.hid hb2
          clear hrow hb hr2 hb2
          go_wp2
          go_roundw
          case rel => exact ⟨k + 1, by omega, by go_num, HR2.out, HB2.out⟩
          case measure => simp [intOf] <;> omega
        · have hkn2 : k = n := by omega
          have hpl : RowW T4 wr (places O n 0) := by
            rw [places_zero]
            rw [hkn2, Nat.sub_self] at hrow
            simpa using hrow
          have k1 : (n : Int) ≤ (k : Int) := by omega
          have HPL := Lib.hid hpl
          have HBX := Lib.hid hb
          clear hrow hb hpl hkn2
          go_wp2
          go_loopw [6, 7, 39] (fun _ _ cv wr => ∃ k : Nat, k ≤ n ∧ cv = .int .i64 k ∧ RowW T4 wr (places O n k) ∧ Below T4 w4 wr) (fun _ _ cv _ => n - (intOf cv).toNat)
          case atStart => exact ⟨0, Nat.zero_le _, rfl, HPL.out, HBX.out⟩
          case round =>
            obtain ⟨k, hk, rfl, hrow, hb⟩ := hrel
            have k0 : (0 : Int) ≤ (k : Int) := by omega
            have hpln := places_len O n k
            by_cases hkn : k < n
            · have k1 : (k : Int) < (n : Int) := by omega
              obtain ⟨b2, o2, rfl, hbB, c1⟩ := HC3.out wr (by rw [← HT4.out]; exact hb) k hkn
              have hxn := HGL.out k hkn
              have hneg := (HAT.out k (by omega)).2 k (Nat.le_refl _) (by rw [HY1.out]; exact hkn)
              have hst : (places O n k).set (O.getD k 0) k = places O n (k + 1) := rfl
              obtain ⟨x, hx⟩ : ∃ x, O.getD k 0 = x := ⟨_, rfl⟩
              rw [hx] at c1 hxn hneg hst
              have c2 := hrow.cell (i := x) (by rw [hpln]; exact hxn)
              rw [hneg] at c2
              have f2 := hrow.frozen x
              have hr2 := hrow.set x k
              rw [hst] at hr2
              have hb2 := hb.setCell (p := ⟨T4, x, none⟩) (Nat.le_refl T4) (.int .i64 k)
              have x0 : (0 : Int) ≤ (x : Int) := by omega
              have x1 : (x : Int) < (n : Int) := by omega
              have x2 : ¬ n ≤ x := by omega
              have HR2 := Lib.hid hr2
              have HB2 := Lib.hid hb2
              clear hrow hb hr2 hb2 hneg hst hx hpln hbB
              go_wp2
              go_roundw
              case rel => exact ⟨k + 1, by omega, by go_num, HR2.out, HB2.out⟩
              case measure => simp [intOf] <;> omega
            · have hkn2 : k = n := by omega
              rw [hkn2] at hrow
              have k1 : (n : Int) ≤ (k : Int) := by omega
              have HPL := Lib.hid hrow
              have HBX := Lib.hid hb
              obtain ⟨wd, rfl⟩ : ∃ wd, wd = wr := ⟨wr, rfl⟩
              clear hrow hb hkn2 hpln
              go_wp2
              go_loopw [8] (fun cv wr => ∃ k : Nat, k < n ∧ cv = .int .i64 k ∧ RowW T4 wr (places O n n) ∧ Below T4 w4 wr) (fun cv _ => n - (intOf cv).toNat)
              case atStart => exact ⟨0, HN0.out, rfl, HPL.out, HBX.out⟩
              case round =>
                obtain ⟨i, hin, rfl, hpl, hbx⟩ := hrel
                have HPL := Lib.hid hpl
                have HBX := Lib.hid hbx
                clear hpl hbx
                have i0 : (0 : Int) ≤ (i : Int) := by omega
                by_cases hi1 : i + 1 < n
                · have i1 : (i : Int) + 1 < (n : Int) := by omega
                  have i2 : (i : Int) < (n : Int) := by omega
                  obtain ⟨b, o, rfl, hbB, c1⟩ := HLC.out wr (HB4.out.trans (HBX.out.mono (by rw [HT4.out]; exact HB4.out.size))) i hin
                  obtain ⟨b', o', hbb, _, c2⟩ := HLC.out wr (HB4.out.trans (HBX.out.mono (by rw [HT4.out]; exact HB4.out.size))) (i + 1) hi1
                  cases hbb
                  have p0 := HPL.out.cell (i := i) (by rw [places_len]; exact hin)
                  have p1 := HPL.out.cell (i := i + 1) (by rw [places_len]; exact hi1)
                  have hl0 := HRANGE.out i hin
                  have hq0 := HPLR.out i hin
                  have hq1 := HPLR.out (i + 1) hi1
                  have hlw := HLAW.out i hi1
                  obtain ⟨x, hx⟩ : ∃ x, lv.getD i 0 = x := ⟨_, rfl⟩
                  obtain ⟨y, hy⟩ : ∃ y, lv.getD (i + 1) 0 = y := ⟨_, rfl⟩
                  obtain ⟨a0, ha0⟩ : ∃ a0, (places O n n).getD i 0 = a0 := ⟨_, rfl⟩
                  obtain ⟨a1, ha1⟩ : ∃ a1, (places O n n).getD (i + 1) 0 = a1 := ⟨_, rfl⟩
                  rw [hx] at c1 hl0 hlw
                  rw [hy] at c2 hlw
                  rw [ha0] at p0 hq0 hlw
                  rw [ha1] at p1 hq1 hlw
                  obtain ⟨l0, l1⟩ := hl0
                  obtain ⟨q0, q1⟩ := hq0
                  obtain ⟨r0, r1⟩ := hq1
                  clear hx hy ha0 ha1 hbB
                  by_cases hxy : x = y
                  · have hlw2 := hlw hxy
                    clear hlw
                    subst hxy
                    have hm : x.tmod 2 = x % 2 := Int.tmod_eq_emod_of_nonneg l0
                    have hne : (a1 - a0 != 1 - 2 * (x % 2)) = false := by rw [hlw2]; simp
                    clear hlw2
                    go_wp2
                    go_region
                    go_wp2
                    go_roundw
                    case rel => exact ⟨i + 1, by omega, by go_num, HPL.out, ⟨HBX.out.os, HBX.out.tape, HBX.out.output, HBX.out.size, HBX.out.block⟩⟩
                    case measure => simp [intOf] <;> omega
                  · have hxy' : (x == y) = false := by simp [hxy]
                    clear hlw
                    go_wp2
                    go_region
                    go_wp2
                    go_roundw
                    case rel => exact ⟨i + 1, by omega, by go_num, HPL.out, ⟨HBX.out.os, HBX.out.tape, HBX.out.output, HBX.out.size, HBX.out.block⟩⟩
                    case measure => simp [intOf] <;> omega
                · have i1 : (n : Int) ≤ (i : Int) + 1 := by omega
                  go_wp2
                  go_ret
                  exact ⟨by simp, HB4.out.trans (HBX.out.mono (by rw [HT4.out]; exact HB4.out.size))⟩
end Go.Proofs.Ytgefbagojghmeaa
