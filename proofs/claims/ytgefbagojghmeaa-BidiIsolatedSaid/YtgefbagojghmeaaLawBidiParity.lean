/-
  The law BidiParity: parity and bounds of levels.
-/
import Derived.Test.YtgefbagojghmeaaLawBidiLevels
import Derived.Test.YtgefbagojghmeaaBi14
import Derived.Deep.DeepCutAuto
import Derived.Deep.CutBlock
import Derived.BigQuiet
namespace Go.Proofs.Ytgefbagojghmeaa
open Go.RowKit

theorem lev_levI (xs : List Int) (e : Int) : lev xs e = levI xs.length e (own e) xs := by
  unfold lev
  rw [fill_lev (xs.length + 1) 0 xs.length e _ xs.length (Nat.zero_le _) (Nat.le_refl _) (shut_all xs) (List.length_replicate ..) (by omega) (by omega), seg_all, List.take_zero, List.nil_append, List.drop_eq_nil_of_le (by rw [List.length_replicate]; exact Nat.le_refl _), List.append_nil]
theorem lev_good (xs : List Int) (e : Int) (he : 0 ≤ e) : AllGood e (e + 2 * mh 0 xs + 2) xs (lev xs e) := by
  rw [lev_levI]
  exact levI_good _ _ _ _ (Nat.le_refl _) he (own_or e)
theorem lev_at {xs : List Int} {e : Int} (he : 0 ≤ e) {i : Nat} (hi : i < xs.length) : Good e (e + 2 * mh 0 xs + 2) (xs.getD i 0) ((lev xs e).getD i 0) := by
  have h := lev_good xs e he
  have hl : i < (lev xs e).length := by rw [lev_len]; exact hi
  have hm : (xs.getD i 0, (lev xs e).getD i 0) ∈ xs.zip (lev xs e) := by
    rw [List.mem_iff_getElem?]
    exact ⟨i, by rw [List.getElem?_zip_eq_some]; exact ⟨by simp [List.getD, hi], by simp [List.getD, hl]⟩⟩
  exact h _ hm
theorem mh_bound (xs : List Int) : mh 0 xs ≤ xs.length := by
  have := mh_len xs 0
  omega

theorem par_hi1 (D : Nat) (y : Int) (hD : D ≤ 1000) (h : y ≤ 1 + 2 * D + 2) : decide (IntKind.i64.wrap (IntKind.i64.wrap (1 + IntKind.i64.wrap (2 * (D : Int))) + 2) < y) = false := by
  have hw2 : IntKind.i64.wrap (2 * (D : Int)) = 2 * D := by rw [IntKind.wrap_i64]; omega
  rw [hw2, show IntKind.i64.wrap (1 + 2 * (D : Int)) = 1 + 2 * D by rw [IntKind.wrap_i64]; omega, show IntKind.i64.wrap (1 + 2 * (D : Int) + 2) = 1 + 2 * D + 2 by rw [IntKind.wrap_i64]; omega]
  exact decide_eq_false (by omega)
theorem par_hi0 (D : Nat) (y : Int) (hD : D ≤ 1000) (h : y ≤ 2 * D + 2) : decide (IntKind.i64.wrap (IntKind.i64.wrap (0 + IntKind.i64.wrap (2 * (D : Int))) + 2) < y) = false ∧ decide (IntKind.i64.wrap (IntKind.i64.wrap (IntKind.i64.wrap (2 * (D : Int))) + 2) < y) = false ∧ decide (IntKind.i64.wrap (IntKind.i64.wrap (2 * (D : Int)) + 2) < y) = false := by
  have hw2 : IntKind.i64.wrap (2 * (D : Int)) = 2 * D := by rw [IntKind.wrap_i64]; omega
  rw [hw2, show IntKind.i64.wrap (0 + 2 * (D : Int)) = 2 * D by rw [IntKind.wrap_i64]; omega, hw2, show IntKind.i64.wrap (2 * (D : Int) + 2) = 2 * D + 2 by rw [IntKind.wrap_i64]; omega]
  exact ⟨decide_eq_false (by omega), decide_eq_false (by omega), decide_eq_false (by omega)⟩

set_option maxRecDepth 100000 in
set_option maxHeartbeats 4000000 in
theorem law_BidiParity (s : ByteArray) (rtl : Bool) (hs : s.size ≤ maxLen) (w : World) : Calls Try.prog 5 #[.string s, .bool rtl] w (TrueP w) := by
  unfold maxLen at hs
  by_cases hl : 200 < s.size
  · go_enter Try.func5, Try.ntmps5
    go_wp2_with fail
    refine (awake23_any _).mono ?_
    rintro e w1 ⟨rfl, hb1⟩
    have HB1 := Lib.hid hb1
    clear hb1
    go_wp2_with fail
    refine (awake23_any _).mono ?_
    rintro e w2 ⟨rfl, hb2⟩
    have HB2 := Lib.hid (HB1.out.trans (hb2.mono HB1.out.size))
    clear hb2
    go_wp2
    go_ret
    exact ⟨rfl, HB2.out⟩
  · have hle := U8.els_len s.data.toList
    rw [U8.size_len] at hle
    have hli : (ints (U8.els s.data.toList)).length ≤ 400 := by unfold ints; rw [List.length_map]; omega
    have h1 := levelsR_any s rtl (by omega)
    have h2 := refdecode_any s (by omega)
    have h3 := depth_any s (by omega)
    unfold DepthP at h3
    unfold DecP at h2
    rw [rdRun_mh] at h3
    obtain ⟨xs, hxs⟩ : ∃ xs, ints (U8.els s.data.toList) = xs := ⟨_, rfl⟩
    rw [hxs] at h1 h2 h3 hli
    have hmb := mh_bound xs
    have hat := fun (i : Nat) (hi : i < xs.length) => lev_at (xs := xs) (e := eOf rtl) (by unfold eOf; split <;> omega) hi
    unfold LvErr LvOut at h1
    have hll := lev_len xs (eOf rtl)
    obtain ⟨D, hD⟩ : ∃ D, mh 0 xs = D := ⟨_, rfl⟩
    rw [hD] at h1 h3 hmb
    simp only [hD] at hat
    obtain ⟨n, hn⟩ : ∃ n, n = xs.length := ⟨_, rfl⟩
    rw [← hn] at hli hll hmb
    have HN := Lib.hid hn
    by_cases h30 : 30 < D
    · rw [if_pos h30, if_pos h30] at h1
      have H1 := Lib.hid h1
      clear h1 h2 h3 hat hll hxs hD hn hle
      go_enter Try.func5, Try.ntmps5
      go_wp2_with fail
      refine (awake23_any _).mono ?_
      rintro e w1 ⟨rfl, hb1⟩
      have HB1 := Lib.hid hb1
      clear hb1
      go_wp2_with fail
      refine (H1.out _).mono ?_
      rintro e w2 ⟨v, rfl, ⟨ao, ca, rfl, _⟩, hb2⟩
      have HB2 := Lib.hid hb2
      clear hb2
      go_wp2
      go_ret
      exact ⟨rfl, HB1.out.trans (HB2.out.mono HB1.out.size)⟩
    · rw [if_neg h30, if_neg h30] at h1
      obtain ⟨L, hL⟩ : ∃ L, lev xs (eOf rtl) = L := ⟨_, rfl⟩
      rw [hL] at h1 hll
      simp only [hL] at hat
      have H1 := Lib.hid h1
      have H2 := Lib.hid h2
      have H3 := Lib.hid h3
      have HAT := Lib.hid hat
      clear h1 h2 h3 hat hxs hD hn hle hL
      cases rtl
      all_goals
        go_enter Try.func5, Try.ntmps5
        go_wp2_with fail
        refine (awake23_any _).mono ?_
        rintro e w1 ⟨rfl, hb1⟩
        have HB1 := Lib.hid hb1
        clear hb1
        go_wp2_with fail
        refine (H1.out _).mono ?_
        rintro e w2 ⟨v, rfl, ⟨ao, ca, rfl, hc⟩, hb2⟩
        rw [hll] at hc
        rw [hll]
        have HC := Lib.hid hc
        have HB2 := Lib.hid (HB1.out.trans (hb2.mono HB1.out.size))
        clear hb2 hc
        go_wp2_with fail
        refine (H2.out _).mono ?_
        rintro e w3 ⟨u, rfl, ho3, hb3⟩
        have hi3 := IsInts.of_own ho3
        obtain ⟨ao3, ca3, rfl, hc3⟩ := hi3
        rw [← HN.out] at hc3
        rw [← HN.out]
        have hs3 := hb3.size
        have HC3 := Lib.hid hc3
        have HB23 := Lib.hid hb3
        have HB3 := Lib.hid (HB2.out.trans (hb3.mono HB2.out.size))
        clear hb3 hc3 ho3
        go_wp2
        go_loopw [9, 10, 11, 39] (fun _ _ _ i wr => ∃ k : Nat, k ≤ n ∧ i = .int .i64 k ∧ Below w3.heap.size w3 wr) (fun _ _ _ i _ => n - (intOf i).toNat)
        case atStart => exact ⟨0, Nat.zero_le _, rfl, Below.refl _ _⟩
        case round =>
          obtain ⟨k, hk, rfl, hb⟩ := hrel
          have k0 : (0 : Int) ≤ (k : Int) := by omega
          by_cases hlt : k < n
          · obtain ⟨b, o, rfl, hbB, hcl⟩ := HC.out (by omega)
            obtain ⟨b3, o3, rfl, hbB3, hcl3⟩ := HC3.out (by omega)
            have c1 := (HB23.out.cell (p := ⟨b, o + k, none⟩) hbB).trans (hcl k (by omega))
            have c1 := (hb.cell (p := ⟨b, o + k, none⟩) (Nat.lt_of_lt_of_le hbB hs3)).trans c1
            have c3 := (hb.cell (p := ⟨b3, o3 + k, none⟩) hbB3).trans (hcl3 k (by omega))
            have hg := HAT.out k (by have := HN.out; omega)
            have k1 : (k : Int) < (n : Int) := by omega
            obtain ⟨x, hx⟩ : ∃ x, xs.getD k 0 = x := ⟨_, rfl⟩
            obtain ⟨y, hy⟩ : ∃ y, L.getD k 0 = y := ⟨_, rfl⟩
            rw [hx] at c3 hg
            rw [hy] at c1 hg
            unfold Good eOf at hg
            obtain ⟨g1, g2, g3, g4, g5⟩ := hg
            have hcz := class_any x wr
            unfold ClassP at hcz
            have hcc := cls_cases x
            obtain ⟨z, hz⟩ : ∃ z, cls x = z := ⟨_, rfl⟩
            rw [hz] at hcz hcc
            have y0 : 0 ≤ y := by
              simp at g4
              omega
            have e1 : y.tmod 2 = y % 2 := Int.tmod_eq_emod_of_nonneg y0
            have HCZ := Lib.hid hcz
            have HBW := Lib.hid hb
            have g4' := g4
            have g5' := g5
            simp at g4' g5'
            have hd0 : decide (y < 0) = false := decide_eq_false (by omega)
            first | (have hd1 : decide (y < 1) = false := decide_eq_false (by omega)) | skip
            first | (have hd5 : decide (1 + 2 * (D : Int) + 2 < y) = false := decide_eq_false (by omega)) | skip
            first | (have hd6 : decide (2 * (D : Int) + 2 < y) = false := decide_eq_false (by omega)) | skip
            first | (have hd2 := par_hi1 D y (by omega) (by omega)) | skip
            first | (have hd3 := par_hi0 D y (by omega) (by omega)) | skip
            clear hcl hcl3 hcz hb hx hy hz g4 g5
            have hz6 : (z = 1 ∧ y.tmod 2 = 0) ∨ (z = 2 ∧ y.tmod 2 = 1) ∨ (z = 3 ∧ y.tmod 2 = 0) ∨ (z ≠ 1 ∧ z ≠ 2 ∧ z ≠ 3) := by
              rcases hcc with ⟨h4, _⟩ | ⟨h4, _⟩ | ⟨h4, _, _, _⟩
              · omega
              · omega
              · rw [← h4] at g1 g2 g3
                by_cases z1 : z = 1
                · exact .inl ⟨z1, by rw [e1]; exact g1 z1⟩
                · by_cases z2 : z = 2
                  · exact .inr (.inl ⟨z2, by rw [e1]; exact g2 z2⟩)
                  · by_cases z3 : z = 3
                    · exact .inr (.inr (.inl ⟨z3, by rw [e1]; exact g3 z3⟩))
                    · exact .inr (.inr (.inr ⟨z1, z2, z3⟩))
            clear hcc e1 g1 g2 g3
            have hcw : ∀ W, Below wr.heap.size wr W → W.cell? ⟨b, o + k, none⟩ = some (.int .i64 y) := fun W hW => (hW.cell (p := ⟨b, o + k, none⟩) (World.block_lt_of_cell? wr _ c1)).trans c1
            have HCW := Lib.hid hcw
            have hdr : ∀ W, Below wr.drew.heap.size wr.drew W → Below wr.heap.size wr W := fun W h => ⟨h.os, h.tape, h.output, h.size, h.block⟩
            have HDR := Lib.hid hdr
            clear hcw hdr
            rcases hz6 with ⟨rfl, e2⟩ | ⟨rfl, e2⟩ | ⟨rfl, e2⟩ | ⟨z1, z2, z3⟩
            · skip
              go_wp2_with fail
              refine (HCZ.out).mono ?_
              rintro e wq ⟨rfl, rfl⟩
              go_upto_region 18 with fail
              go_cut [92] (fun ov wx => ov = .bool false ∧ Below wr.heap.size wr wx)
              case first =>
                refine wp_region_quiet (C := fun W => W.cell? ⟨b, o + k, none⟩ = some (.int .i64 y) ∧ Below wr.heap.size wr W) (by kernel_rfl) (by kernel_rfl) ⟨c1, ⟨rfl, rfl, rfl, Nat.le_refl _, fun _ _ => rfl⟩⟩ ?_
                dsimp only
                repeat (first | go_big_quiet_skip | (go_big_quiet_want; go_big_quiet_op; first | go_big_quiet_on | (refine Exists.intro (Value.int .i64 y) (And.intro ?_ ?_); (focus (intro W q1 q2; rw [q1]; exact ⟨rfl, rfl⟩)); go_big_quiet_on) | (refine Exists.intro (Value.int .i64 D) (And.intro ?_ ?_); (focus (intro W q1 q2; exact (H3.out W).mono (fun ex W2 hh => ⟨hh.1, ((hh.2).cell (p := ⟨b, o + k, none⟩) (World.block_lt_of_cell? W _ q1)).trans q1, q2.trans (hh.2.mono q2.size)⟩))); go_big_quiet_on) | (refine ⟨_, fun _ _ _ => rfl, ?_⟩; go_big_quiet_on)))
                refine wpQuiet_nil ?_
                intro W hW
                go_wp2_with fail
                go_meet
                exact ⟨rfl, hW.2⟩
              case rest =>
                obtain ⟨rfl, hbc⟩ := hcut
                have HB5 := Lib.hid hbc
                clear hbc
                go_wp2
                go_roundw
                case rel => exact ⟨k + 1, by omega, by go_num, HBW.out.trans (HB5.out.mono HBW.out.size)⟩
                case measure => simp [intOf] <;> omega
            · skip
              go_wp2_with fail
              refine (HCZ.out).mono ?_
              rintro e wq ⟨rfl, rfl⟩
              go_upto_region 18 with fail
              go_cut [92] (fun ov wx => ov = .bool false ∧ Below wr.heap.size wr wx)
              case first =>
                refine wp_region_quiet (C := fun W => W.cell? ⟨b, o + k, none⟩ = some (.int .i64 y) ∧ Below wr.heap.size wr W) (by kernel_rfl) (by kernel_rfl) ⟨c1, ⟨rfl, rfl, rfl, Nat.le_refl _, fun _ _ => rfl⟩⟩ ?_
                dsimp only
                repeat (first | go_big_quiet_skip | (go_big_quiet_want; go_big_quiet_op; first | go_big_quiet_on | (refine Exists.intro (Value.int .i64 y) (And.intro ?_ ?_); (focus (intro W q1 q2; rw [q1]; exact ⟨rfl, rfl⟩)); go_big_quiet_on) | (refine Exists.intro (Value.int .i64 D) (And.intro ?_ ?_); (focus (intro W q1 q2; exact (H3.out W).mono (fun ex W2 hh => ⟨hh.1, ((hh.2).cell (p := ⟨b, o + k, none⟩) (World.block_lt_of_cell? W _ q1)).trans q1, q2.trans (hh.2.mono q2.size)⟩))); go_big_quiet_on) | (refine ⟨_, fun _ _ _ => rfl, ?_⟩; go_big_quiet_on)))
                refine wpQuiet_nil ?_
                intro W hW
                go_wp2_with fail
                go_meet
                exact ⟨rfl, hW.2⟩
              case rest =>
                obtain ⟨rfl, hbc⟩ := hcut
                have HB5 := Lib.hid hbc
                clear hbc
                go_wp2
                go_roundw
                case rel => exact ⟨k + 1, by omega, by go_num, HBW.out.trans (HB5.out.mono HBW.out.size)⟩
                case measure => simp [intOf] <;> omega
            · skip
              go_wp2_with fail
              refine (HCZ.out).mono ?_
              rintro e wq ⟨rfl, rfl⟩
              go_upto_region 18 with fail
              go_cut [92] (fun ov wx => ov = .bool false ∧ Below wr.heap.size wr wx)
              case first =>
                refine wp_region_quiet (C := fun W => W.cell? ⟨b, o + k, none⟩ = some (.int .i64 y) ∧ Below wr.heap.size wr W) (by kernel_rfl) (by kernel_rfl) ⟨c1, ⟨rfl, rfl, rfl, Nat.le_refl _, fun _ _ => rfl⟩⟩ ?_
                dsimp only
                repeat (first | go_big_quiet_skip | (go_big_quiet_want; go_big_quiet_op; first | go_big_quiet_on | (refine Exists.intro (Value.int .i64 y) (And.intro ?_ ?_); (focus (intro W q1 q2; rw [q1]; exact ⟨rfl, rfl⟩)); go_big_quiet_on) | (refine Exists.intro (Value.int .i64 D) (And.intro ?_ ?_); (focus (intro W q1 q2; exact (H3.out W).mono (fun ex W2 hh => ⟨hh.1, ((hh.2).cell (p := ⟨b, o + k, none⟩) (World.block_lt_of_cell? W _ q1)).trans q1, q2.trans (hh.2.mono q2.size)⟩))); go_big_quiet_on) | (refine ⟨_, fun _ _ _ => rfl, ?_⟩; go_big_quiet_on)))
                refine wpQuiet_nil ?_
                intro W hW
                go_wp2_with fail
                go_meet
                exact ⟨rfl, hW.2⟩
              case rest =>
                obtain ⟨rfl, hbc⟩ := hcut
                have HB5 := Lib.hid hbc
                clear hbc
                go_wp2
                go_roundw
                case rel => exact ⟨k + 1, by omega, by go_num, HBW.out.trans (HB5.out.mono HBW.out.size)⟩
                case measure => simp [intOf] <;> omega
            · have b1 : (z == 1) = false := by simp [z1]
              have b2 : (z == 2) = false := by simp [z2]
              have b3 : (z == 3) = false := by simp [z3]
              clear z1 z2 z3
              go_wp2_with fail
              refine (HCZ.out).mono ?_
              rintro e wq ⟨rfl, rfl⟩
              go_upto_region 18 with fail
              go_cut [92] (fun ov wx => ov = .bool false ∧ Below wr.heap.size wr wx)
              case first =>
                refine wp_region_quiet (C := fun W => W.cell? ⟨b, o + k, none⟩ = some (.int .i64 y) ∧ Below wr.heap.size wr W) (by kernel_rfl) (by kernel_rfl) ⟨c1, ⟨rfl, rfl, rfl, Nat.le_refl _, fun _ _ => rfl⟩⟩ ?_
                dsimp only
                repeat (first | go_big_quiet_skip | (go_big_quiet_want; go_big_quiet_op; first | go_big_quiet_on | (refine Exists.intro (Value.int .i64 y) (And.intro ?_ ?_); (focus (intro W q1 q2; rw [q1]; exact ⟨rfl, rfl⟩)); go_big_quiet_on) | (refine Exists.intro (Value.int .i64 D) (And.intro ?_ ?_); (focus (intro W q1 q2; exact (H3.out W).mono (fun ex W2 hh => ⟨hh.1, ((hh.2).cell (p := ⟨b, o + k, none⟩) (World.block_lt_of_cell? W _ q1)).trans q1, q2.trans (hh.2.mono q2.size)⟩))); go_big_quiet_on) | (refine ⟨_, fun _ _ _ => rfl, ?_⟩; go_big_quiet_on)))
                refine wpQuiet_nil ?_
                intro W hW
                go_wp2_with fail
                go_meet
                exact ⟨rfl, hW.2⟩
              case rest =>
                obtain ⟨rfl, hbc⟩ := hcut
                have HB5 := Lib.hid hbc
                clear hbc
                go_wp2
                go_roundw
                case rel => exact ⟨k + 1, by omega, by go_num, HBW.out.trans (HB5.out.mono HBW.out.size)⟩
                case measure => simp [intOf] <;> omega
          · have k1 : (n : Int) ≤ (k : Int) := by omega
            have HBW := Lib.hid hb
            clear hb
            go_wp2
            go_ret
            exact ⟨rfl, HB3.out.trans (HBW.out.mono HB3.out.size)⟩
end Go.Proofs.Ytgefbagojghmeaa
