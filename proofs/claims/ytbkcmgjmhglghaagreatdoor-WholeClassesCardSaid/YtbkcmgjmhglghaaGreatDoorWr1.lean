/-
  calqueref08.proper.
-/
import Derived.Test.YtbkcmgjmhglghaaGreatDoorWr0
import Derived.Deep.RegionHeld3
import Derived.Deep.DrawnRows
import Derived.Deep.DeepCutAuto
import Derived.Deep.CutBlock
import Derived.BigQuiet
namespace Go.Proofs.YtbkcmgjmhglghaaGreatDoor
open Go.RowKit

theorem rel_cells {W : World} {g : Nat} {a b : Int} {c : Bool} {v : Value} (h : W.heap[g]? = some (.cells #[.int .i64 a, .int .i64 b, .bool c, v] 51 (0, 0))) :
    W.cell? ⟨g, 0, none⟩ = some (.int .i64 a) ∧ W.cell? ⟨g, 1, none⟩ = some (.int .i64 b) ∧ W.cell? ⟨g, 2, none⟩ = some (.bool c) ∧ W.cell? ⟨g, 3, none⟩ = some v := by
  refine ⟨?_, ?_, ?_, ?_⟩
  all_goals
    rw [Lib.cell_of_heap h]
    rfl
theorem span_cells {W : World} {g : Nat} {a b : Int} (h : W.heap[g]? = some (.cells #[.int .i64 a, .int .i64 b] 48 (0, 0))) : W.cell? ⟨g, 0, none⟩ = some (.int .i64 a) ∧ W.cell? ⟨g, 1, none⟩ = some (.int .i64 b) := by
  refine ⟨?_, ?_⟩
  all_goals
    rw [Lib.cell_of_heap h]
    rfl
theorem relS_step {g : Nat} {a b : Int} {v : Value} {wx W0 w5 : World} (h : W0.cell? ⟨g, 0, none⟩ = some (.int .i64 a) ∧ W0.cell? ⟨g, 1, none⟩ = some (.int .i64 b) ∧ W0.cell? ⟨g, 3, none⟩ = some v ∧ Below wx.heap.size wx W0) (hb : Below W0.heap.size W0 w5) :
    w5.cell? ⟨g, 0, none⟩ = some (.int .i64 a) ∧ w5.cell? ⟨g, 1, none⟩ = some (.int .i64 b) ∧ w5.cell? ⟨g, 3, none⟩ = some v ∧ Below wx.heap.size wx w5 := by
  obtain ⟨h1, h2, h3, h4⟩ := h
  exact ⟨(hb.cell (p := ⟨g, 0, none⟩) (World.block_lt_of_cell? W0 _ h1)).trans h1, (hb.cell (p := ⟨g, 1, none⟩) (World.block_lt_of_cell? W0 _ h2)).trans h2, (hb.cell (p := ⟨g, 3, none⟩) (World.block_lt_of_cell? W0 _ h3)).trans h3, h4.trans (hb.mono h4.size)⟩
/-- What proper asks ahead of the spans. -/
def headB (op md : Int) (n : Nat) : Bool := decide (1 ≤ op) && decide (op ≤ 6) && (decide (md = 0) || inL (modsL op) md) && decide (1 ≤ n) && decide (n ≤ 4)
theorem relB_eq (op md : Int) (nt : Bool) (sp : List Sp) : relB ⟨op, md, nt, sp⟩ = (headB op md sp.length && sp.all (spanB op)) := rfl
theorem all_drop {p : Sp → Bool} {l : List Sp} {i : Nat} {x : Sp} (hx : l[i]? = some x) : (l.drop i).all p = (p x && (l.drop (i + 1)).all p) := by
  obtain ⟨hi, he⟩ := List.getElem?_eq_some_iff.1 hx
  rw [List.drop_eq_getElem_cons hi, he, List.all_cons]

set_option maxRecDepth 100000 in
set_option maxHeartbeats 16000000 in
theorem proper_any (op md : Int) (nt : Bool) (sv : Value) (sp : List Sp) (B : Nat) (w : World) (hv : IsSpans w B sv sp) (hB : B ≤ w.heap.size) (hx : sp.length ≤ 4611686018427387904) :
    Calls Tryz.prog 50 #[.agg #[.int .i64 op, .int .i64 md, .bool nt, sv]] w fun e w' => e = .returned (.bool (relB ⟨op, md, nt, sp⟩)) ∧ Below w.heap.size w w' := by
  obtain ⟨ao, cap, rfl, hc⟩ := hv
  rw [relB_eq]
  obtain ⟨n, hn⟩ : ∃ n, n = sp.length := ⟨_, rfl⟩
  rw [← hn] at hc hx
  rw [← hn]
  have hh := fun v W (q : IsInts W W.heap.size v (modsL op)) => has_any v (modsL op) md _ W q (by unfold modsL; repeat (first | split | simp))
  obtain ⟨hb1, hd⟩ : ∃ hb1, headB op md n = hb1 := ⟨_, rfl⟩
  have hd0 := hd
  rw [hd]
  have HC := Lib.hid hc
  have HN := Lib.hid hn
  have HH := Lib.hid hh
  have HD := Lib.hid hd0
  clear hc hn hh hd hd0
  go_enter Tryz.func50, Tryz.ntmps50
  go_upto_region 1 with fail
  obtain ⟨w0, hw0⟩ : ∃ w0, w0 = w.alloc (.cells #[.int .i64 op, .int .i64 md, .bool nt, .slice ao n cap] 51) := ⟨_, rfl⟩
  have hbx : w0.heap[w.heap.size]? = some (.cells #[.int .i64 op, .int .i64 md, .bool nt, .slice ao n cap] 51 (0, 0)) := by rw [hw0]; exact heap_alloc_new w _
  have hb0 : Below w.heap.size w w0 := by rw [hw0]; exact (Below.refl _ _).alloc (Nat.le_refl _) _
  rw [← hw0]
  clear hw0
  obtain ⟨c0, c1, c2, c3⟩ := rel_cells hbx
  have HB0 := Lib.hid hb0
  have HX0 := Lib.hid hbx
  clear hb0 hbx
  obtain ⟨nb, hnb⟩ : ∃ nb, nb = !hb1 := ⟨_, rfl⟩
  have HNB := Lib.hid hnb
  clear hnb
  go_cut [38] (fun ov wx => ov = .bool nb ∧ Below w0.heap.size w0 wx)
  case first =>
    by_cases g1 : op < 1
    · have k1 : decide (op < 1) = true := decide_eq_true g1
      refine wp_region_quiet (C := fun W => W.cell? ⟨w.heap.size, 0, none⟩ = some (.int .i64 op) ∧ W.cell? ⟨w.heap.size, 1, none⟩ = some (.int .i64 md) ∧ W.cell? ⟨w.heap.size, 3, none⟩ = some (.slice ao n cap) ∧ Below w0.heap.size w0 W) (by kernel_rfl) (by kernel_rfl) ⟨c0, c1, c3, ⟨rfl, rfl, rfl, Nat.le_refl _, fun _ _ => rfl⟩⟩ ?_
      dsimp only
      repeat (first | go_big_quiet_skip | (go_big_quiet_want; go_big_quiet_op; first | go_big_quiet_on | (refine Exists.intro (Value.int .i64 op) (And.intro ?_ ?_); (focus (intro W q1 q2 q3 q4; rw [q1]; exact ⟨rfl, rfl⟩)); go_big_quiet_on) | (refine Exists.intro (Value.int .i64 md) (And.intro ?_ ?_); (focus (intro W q1 q2 q3 q4; rw [q2]; exact ⟨rfl, rfl⟩)); go_big_quiet_on) | (refine Exists.intro (Value.slice ao n cap) (And.intro ?_ ?_); (focus (intro W q1 q2 q3 q4; rw [q3]; exact ⟨rfl, rfl⟩)); go_big_quiet_on) | (refine ⟨_, fun _ _ _ _ _ => rfl, ?_⟩; go_big_quiet_on)))
      refine wpQuiet_nil ?_
      intro W hW
      go_wp2_with fail
      go_meet
      exact ⟨by rw [HNB.out, ← HD.out]; unfold headB; simp [show ¬ 1 ≤ op from by omega], hW.2.2.2⟩
    · have k1 : decide (op < 1) = false := decide_eq_false g1
      by_cases g2 : 6 < op
      · have k2 : decide (6 < op) = true := decide_eq_true g2
        refine wp_region_quiet (C := fun W => W.cell? ⟨w.heap.size, 0, none⟩ = some (.int .i64 op) ∧ W.cell? ⟨w.heap.size, 1, none⟩ = some (.int .i64 md) ∧ W.cell? ⟨w.heap.size, 3, none⟩ = some (.slice ao n cap) ∧ Below w0.heap.size w0 W) (by kernel_rfl) (by kernel_rfl) ⟨c0, c1, c3, ⟨rfl, rfl, rfl, Nat.le_refl _, fun _ _ => rfl⟩⟩ ?_
        dsimp only
        repeat (first | go_big_quiet_skip | (go_big_quiet_want; go_big_quiet_op; first | go_big_quiet_on | (refine Exists.intro (Value.int .i64 op) (And.intro ?_ ?_); (focus (intro W q1 q2 q3 q4; rw [q1]; exact ⟨rfl, rfl⟩)); go_big_quiet_on) | (refine Exists.intro (Value.int .i64 md) (And.intro ?_ ?_); (focus (intro W q1 q2 q3 q4; rw [q2]; exact ⟨rfl, rfl⟩)); go_big_quiet_on) | (refine Exists.intro (Value.slice ao n cap) (And.intro ?_ ?_); (focus (intro W q1 q2 q3 q4; rw [q3]; exact ⟨rfl, rfl⟩)); go_big_quiet_on) | (refine ⟨_, fun _ _ _ _ _ => rfl, ?_⟩; go_big_quiet_on)))
        refine wpQuiet_nil ?_
        intro W hW
        go_wp2_with fail
        go_meet
        exact ⟨by rw [HNB.out, ← HD.out]; unfold headB; simp [show ¬ op ≤ 6 from by omega], hW.2.2.2⟩
      · have k2 : decide (6 < op) = false := decide_eq_false g2
        have t1 : (1 : Int) ≤ op := by omega
        have t2 : op ≤ 6 := by omega
        by_cases g3 : md = 0
        · subst g3
          have m0 : ((0 : Int) == 0) = true := rfl
          by_cases g4 : n < 1
          · have k4 : decide ((n : Int) < 1) = true := decide_eq_true (by omega)
            refine wp_region_quiet (C := fun W => W.cell? ⟨w.heap.size, 0, none⟩ = some (.int .i64 op) ∧ W.cell? ⟨w.heap.size, 1, none⟩ = some (.int .i64 0) ∧ W.cell? ⟨w.heap.size, 3, none⟩ = some (.slice ao n cap) ∧ Below w0.heap.size w0 W) (by kernel_rfl) (by kernel_rfl) ⟨c0, c1, c3, ⟨rfl, rfl, rfl, Nat.le_refl _, fun _ _ => rfl⟩⟩ ?_
            dsimp only
            repeat (first | go_big_quiet_skip | (go_big_quiet_want; go_big_quiet_op; first | go_big_quiet_on | (refine Exists.intro (Value.int .i64 op) (And.intro ?_ ?_); (focus (intro W q1 q2 q3 q4; rw [q1]; exact ⟨rfl, rfl⟩)); go_big_quiet_on) | (refine Exists.intro (Value.int .i64 0) (And.intro ?_ ?_); (focus (intro W q1 q2 q3 q4; rw [q2]; exact ⟨rfl, rfl⟩)); go_big_quiet_on) | (refine Exists.intro (Value.slice ao n cap) (And.intro ?_ ?_); (focus (intro W q1 q2 q3 q4; rw [q3]; exact ⟨rfl, rfl⟩)); go_big_quiet_on) | (refine ⟨_, fun _ _ _ _ _ => rfl, ?_⟩; go_big_quiet_on)))
            refine wpQuiet_nil ?_
            intro W hW
            go_wp2_with fail
            go_meet
            exact ⟨by rw [HNB.out, ← HD.out]; unfold headB; simp [show ¬ 1 ≤ n from by omega], hW.2.2.2⟩
          · have k4 : decide ((n : Int) < 1) = false := decide_eq_false (by omega)
            by_cases g5 : 4 < n
            · have k5 : decide (4 < (n : Int)) = true := decide_eq_true (by omega)
              refine wp_region_quiet (C := fun W => W.cell? ⟨w.heap.size, 0, none⟩ = some (.int .i64 op) ∧ W.cell? ⟨w.heap.size, 1, none⟩ = some (.int .i64 0) ∧ W.cell? ⟨w.heap.size, 3, none⟩ = some (.slice ao n cap) ∧ Below w0.heap.size w0 W) (by kernel_rfl) (by kernel_rfl) ⟨c0, c1, c3, ⟨rfl, rfl, rfl, Nat.le_refl _, fun _ _ => rfl⟩⟩ ?_
              dsimp only
              repeat (first | go_big_quiet_skip | (go_big_quiet_want; go_big_quiet_op; first | go_big_quiet_on | (refine Exists.intro (Value.int .i64 op) (And.intro ?_ ?_); (focus (intro W q1 q2 q3 q4; rw [q1]; exact ⟨rfl, rfl⟩)); go_big_quiet_on) | (refine Exists.intro (Value.int .i64 0) (And.intro ?_ ?_); (focus (intro W q1 q2 q3 q4; rw [q2]; exact ⟨rfl, rfl⟩)); go_big_quiet_on) | (refine Exists.intro (Value.slice ao n cap) (And.intro ?_ ?_); (focus (intro W q1 q2 q3 q4; rw [q3]; exact ⟨rfl, rfl⟩)); go_big_quiet_on) | (refine ⟨_, fun _ _ _ _ _ => rfl, ?_⟩; go_big_quiet_on)))
              refine wpQuiet_nil ?_
              intro W hW
              go_wp2_with fail
              go_meet
              exact ⟨by rw [HNB.out, ← HD.out]; unfold headB; simp [show ¬ n ≤ 4 from by omega], hW.2.2.2⟩
            · have k5 : decide (4 < (n : Int)) = false := decide_eq_false (by omega)
              refine wp_region_quiet (C := fun W => W.cell? ⟨w.heap.size, 0, none⟩ = some (.int .i64 op) ∧ W.cell? ⟨w.heap.size, 1, none⟩ = some (.int .i64 0) ∧ W.cell? ⟨w.heap.size, 3, none⟩ = some (.slice ao n cap) ∧ Below w0.heap.size w0 W) (by kernel_rfl) (by kernel_rfl) ⟨c0, c1, c3, ⟨rfl, rfl, rfl, Nat.le_refl _, fun _ _ => rfl⟩⟩ ?_
              dsimp only
              repeat (first | go_big_quiet_skip | (go_big_quiet_want; go_big_quiet_op; first | go_big_quiet_on | (refine Exists.intro (Value.int .i64 op) (And.intro ?_ ?_); (focus (intro W q1 q2 q3 q4; rw [q1]; exact ⟨rfl, rfl⟩)); go_big_quiet_on) | (refine Exists.intro (Value.int .i64 0) (And.intro ?_ ?_); (focus (intro W q1 q2 q3 q4; rw [q2]; exact ⟨rfl, rfl⟩)); go_big_quiet_on) | (refine Exists.intro (Value.slice ao n cap) (And.intro ?_ ?_); (focus (intro W q1 q2 q3 q4; rw [q3]; exact ⟨rfl, rfl⟩)); go_big_quiet_on) | (refine ⟨_, fun _ _ _ _ _ => rfl, ?_⟩; go_big_quiet_on)))
              refine wpQuiet_nil ?_
              intro W hW
              go_wp2_with fail
              go_meet
              exact ⟨by rw [HNB.out, ← HD.out]; unfold headB; simp [t2, t1, show 1 ≤ n from by omega, show n ≤ 4 from by omega], hW.2.2.2⟩
        · have m0 : (md == 0) = false := by simp [g3]
          have m1 : (md != 0) = true := by simp [g3]
          have m2 : decide (md = 0) = false := decide_eq_false g3
          cases hin : inL (modsL op) md with
          | false =>
            have hh := HH.out
            rw [hin] at hh
            clear HH
            have HH := Lib.hid hh
            clear hh
            first | go_region_with (first | (go_at_call 73; refine (mods_any _ _).mono ?_; rintro e w5 ⟨v5, rfl, hi5, hb5⟩; obtain ⟨f0, f1, f3, hf⟩ := relS_step (g := w.heap.size) (a := op) (b := md) (v := .slice ao n cap) (wx := w0) (by first | exact ⟨c0, c1, c3, Below.refl _ _⟩ | exact ⟨c0, c1, c3, (Below.refl _ _).drew⟩) hb5) | (go_at_call 72; refine (HH.out _ _ hi5).mono ?_; rintro e w6 ⟨rfl, hw6⟩; subst hw6)) | fail
            all_goals go_wp2_with fail
            all_goals go_meet
            all_goals exact ⟨by rw [HNB.out, ← HD.out]; unfold headB; simp [g3, hin], hf⟩
          | true =>
            have hh := HH.out
            rw [hin] at hh
            clear HH
            have HH := Lib.hid hh
            clear hh
            by_cases g4 : n < 1
            · have k4 : decide ((n : Int) < 1) = true := decide_eq_true (by omega)
              first | go_region_with (first | (go_at_call 73; refine (mods_any _ _).mono ?_; rintro e w5 ⟨v5, rfl, hi5, hb5⟩; obtain ⟨f0, f1, f3, hf⟩ := relS_step (g := w.heap.size) (a := op) (b := md) (v := .slice ao n cap) (wx := w0) (by first | exact ⟨c0, c1, c3, Below.refl _ _⟩ | exact ⟨c0, c1, c3, (Below.refl _ _).drew⟩) hb5) | (go_at_call 72; refine (HH.out _ _ hi5).mono ?_; rintro e w6 ⟨rfl, hw6⟩; subst hw6)) | fail
              all_goals go_wp2_with fail
              all_goals go_meet
              all_goals exact ⟨by rw [HNB.out, ← HD.out]; unfold headB; simp [show ¬ 1 ≤ n from by omega], hf⟩
            · have k4 : decide ((n : Int) < 1) = false := decide_eq_false (by omega)
              by_cases g5 : 4 < n
              · have k5 : decide (4 < (n : Int)) = true := decide_eq_true (by omega)
                first | go_region_with (first | (go_at_call 73; refine (mods_any _ _).mono ?_; rintro e w5 ⟨v5, rfl, hi5, hb5⟩; obtain ⟨f0, f1, f3, hf⟩ := relS_step (g := w.heap.size) (a := op) (b := md) (v := .slice ao n cap) (wx := w0) (by first | exact ⟨c0, c1, c3, Below.refl _ _⟩ | exact ⟨c0, c1, c3, (Below.refl _ _).drew⟩) hb5) | (go_at_call 72; refine (HH.out _ _ hi5).mono ?_; rintro e w6 ⟨rfl, hw6⟩; subst hw6)) | fail
                all_goals go_wp2_with fail
                all_goals go_meet
                all_goals exact ⟨by rw [HNB.out, ← HD.out]; unfold headB; simp [show ¬ n ≤ 4 from by omega], hf⟩
              · have k5 : decide (4 < (n : Int)) = false := decide_eq_false (by omega)
                go_region_held3 (fun W => W.cell? ⟨w.heap.size, 0, none⟩ = some (.int .i64 op) ∧ W.cell? ⟨w.heap.size, 1, none⟩ = some (.int .i64 md) ∧ W.cell? ⟨w.heap.size, 3, none⟩ = some (.slice ao n cap) ∧ Below w0.heap.size w0 W) (first | assumption | exact ⟨c0, c1, c3, Below.refl _ _⟩ | exact ⟨c0, c1, c3, (Below.refl _ _).drew⟩)
                  (first
                    | (go_at_call 73; refine (mods_any _ _).mono ?_; rintro e w5 ⟨v5, rfl, hi5, hb5⟩; have hS5 := relS_step (by assumption) hb5)
                    | (go_at_call 72; refine (HH.out _ _ hi5).mono ?_; rintro e w6 ⟨rfl, hw6⟩; subst hw6))
                go_wp2_with fail
                go_meet
                exact ⟨by rw [HNB.out, ← HD.out]; unfold headB; simp [t1, t2, hin, show 1 ≤ n from by omega, show n ≤ 4 from by omega], hS5.2.2.2⟩
  case rest =>
    obtain ⟨rfl, hbc⟩ := hcut
    have HBC := Lib.hid hbc
    clear c0 c1 c2 c3 hbc
    cases hb1 with
    | false =>
      obtain rfl : nb = true := HNB.out
      go_wp2
      go_ret
      exact ⟨rfl, HB0.out.trans (HBC.out.mono HB0.out.size)⟩
    | true =>
      obtain rfl : nb = false := HNB.out
      have HX1 := Lib.hid ((HBC.out.block w.heap.size (Array.getElem?_eq_some_iff.1 HX0.out).1).trans HX0.out)
      have hlt0 := (Array.getElem?_eq_some_iff.1 HX1.out).1
      have HL0 := Lib.hid hlt0
      have HB1 := Lib.hid (HB0.out.trans (HBC.out.mono HB0.out.size))
      clear hlt0
      go_wp2
      go_loopw [3, 4] (fun iv _ wr => ∃ i : Nat, i ≤ n ∧ iv = .int .i64 i ∧ sp.all (spanB op) = (sp.drop i).all (spanB op) ∧ Below wc.heap.size wc wr) (fun iv _ _ => n - (intOf iv).toNat)
      case atStart => exact ⟨0, Nat.zero_le _, rfl, by rw [List.drop_zero], Below.refl _ _⟩
      case round =>
        obtain ⟨i, hi, rfl, hall, hb⟩ := hrel
        have HBW := Lib.hid hb
        obtain ⟨c0, c1, c2, c3⟩ := rel_cells ((hb.block w.heap.size HL0.out).trans HX1.out)
        have i0 : (0 : Int) ≤ (i : Int) := by omega
        by_cases hlt : i < n
        · have i1 : (i : Int) < (n : Int) := by omega
          have hil : i < sp.length := by have := HN.out; omega
          obtain ⟨x, hx'⟩ : ∃ x, sp[i]? = some x := ⟨_, List.getElem?_eq_getElem hil⟩
          rw [all_drop hx'] at hall
          obtain ⟨b, o, rfl, hbB, hcl⟩ := HC.out (by omega)
          obtain ⟨d0, d1⟩ := hcl i x hx'
          have hbw := HB1.out.trans (HBW.out.mono HB1.out.size)
          have e0 := (hbw.cell (p := ⟨b, o + i * 2, none⟩) (by show b < w.heap.size; omega)).trans d0
          have e1 := (hbw.cell (p := ⟨b, o + i * 2 + 1, none⟩) (by show b < w.heap.size; omega)).trans d1
          obtain ⟨x1, x2⟩ := x
          have HALL := Lib.hid hall
          clear hcl d0 d1 hbw hall hx' hb
          go_upto_region 7 with fail
          obtain ⟨w7, hw7⟩ : ∃ w7, w7 = wr.alloc (.cells #[.int .i64 x1, .int .i64 x2] 48) := ⟨_, rfl⟩
          have hsx : w7.heap[wr.heap.size]? = some (.cells #[.int .i64 x1, .int .i64 x2] 48 (0, 0)) := by rw [hw7]; exact heap_alloc_new wr _
          have hb7 : Below wr.heap.size wr w7 := by rw [hw7]; exact (Below.refl _ _).alloc (Nat.le_refl _) _
          have c07 := (hb7.cell (p := ⟨w.heap.size, 0, none⟩) (World.block_lt_of_cell? wr _ c0)).trans c0
          rw [← hw7]
          clear hw7
          obtain ⟨s0, s1⟩ := span_cells hsx
          obtain ⟨nb2, hnb2⟩ : ∃ nb2, nb2 = !(spanB op (x1, x2)) := ⟨_, rfl⟩
          have HNB2 := Lib.hid hnb2
          have HB7 := Lib.hid hb7
          clear hnb2 hb7 hsx c0 c1 c2 c3 e0 e1
          go_cut [68] (fun ov wx => ov = .bool nb2 ∧ Below w7.heap.size w7 wx)
          case first =>
            by_cases p1 : x1 < 0
            · have r1 : decide (x1 < 0) = true := decide_eq_true p1
              refine wp_region_quiet (C := fun W => W.cell? ⟨wr.heap.size, 0, none⟩ = some (.int .i64 x1) ∧ W.cell? ⟨wr.heap.size, 1, none⟩ = some (.int .i64 x2) ∧ W.cell? ⟨w.heap.size, 0, none⟩ = some (.int .i64 op) ∧ Below w7.heap.size w7 W) (by kernel_rfl) (by kernel_rfl) ⟨s0, s1, c07, ⟨rfl, rfl, rfl, Nat.le_refl _, fun _ _ => rfl⟩⟩ ?_
              dsimp only
              repeat (first | go_big_quiet_skip | (go_big_quiet_want; go_big_quiet_op; first | go_big_quiet_on | (refine Exists.intro (Value.int .i64 x1) (And.intro ?_ ?_); (focus (intro W q1 q2 q3 q4; rw [q1]; exact ⟨rfl, rfl⟩)); go_big_quiet_on) | (refine Exists.intro (Value.int .i64 x2) (And.intro ?_ ?_); (focus (intro W q1 q2 q3 q4; rw [q2]; exact ⟨rfl, rfl⟩)); go_big_quiet_on) | (refine Exists.intro (Value.int .i64 op) (And.intro ?_ ?_); (focus (intro W q1 q2 q3 q4; rw [q3]; exact ⟨rfl, rfl⟩)); go_big_quiet_on) | (refine Exists.intro (Value.int .i64 (boundV op)) (And.intro ?_ ?_); (focus (intro W q1 q2 q3 q4; exact (bound_any op W).mono (fun ex W2 hh => by obtain ⟨h1, h2⟩ := hh; subst h2; exact ⟨h1, q1, q2, q3, q4⟩))); go_big_quiet_on) | (refine ⟨_, fun _ _ _ _ _ => rfl, ?_⟩; go_big_quiet_on)))
              refine wpQuiet_nil ?_
              intro W hW
              go_wp2_with fail
              go_meet
              exact ⟨by rw [HNB2.out]; unfold spanB; simp [show ¬ 0 ≤ x1 from by omega], hW.2.2.2⟩
            · have r1 : decide (x1 < 0) = false := decide_eq_false p1
              by_cases p2 : x2 < x1
              · have r2 : decide (x2 < x1) = true := decide_eq_true p2
                refine wp_region_quiet (C := fun W => W.cell? ⟨wr.heap.size, 0, none⟩ = some (.int .i64 x1) ∧ W.cell? ⟨wr.heap.size, 1, none⟩ = some (.int .i64 x2) ∧ W.cell? ⟨w.heap.size, 0, none⟩ = some (.int .i64 op) ∧ Below w7.heap.size w7 W) (by kernel_rfl) (by kernel_rfl) ⟨s0, s1, c07, ⟨rfl, rfl, rfl, Nat.le_refl _, fun _ _ => rfl⟩⟩ ?_
                dsimp only
                repeat (first | go_big_quiet_skip | (go_big_quiet_want; go_big_quiet_op; first | go_big_quiet_on | (refine Exists.intro (Value.int .i64 x1) (And.intro ?_ ?_); (focus (intro W q1 q2 q3 q4; rw [q1]; exact ⟨rfl, rfl⟩)); go_big_quiet_on) | (refine Exists.intro (Value.int .i64 x2) (And.intro ?_ ?_); (focus (intro W q1 q2 q3 q4; rw [q2]; exact ⟨rfl, rfl⟩)); go_big_quiet_on) | (refine Exists.intro (Value.int .i64 op) (And.intro ?_ ?_); (focus (intro W q1 q2 q3 q4; rw [q3]; exact ⟨rfl, rfl⟩)); go_big_quiet_on) | (refine Exists.intro (Value.int .i64 (boundV op)) (And.intro ?_ ?_); (focus (intro W q1 q2 q3 q4; exact (bound_any op W).mono (fun ex W2 hh => by obtain ⟨h1, h2⟩ := hh; subst h2; exact ⟨h1, q1, q2, q3, q4⟩))); go_big_quiet_on) | (refine ⟨_, fun _ _ _ _ _ => rfl, ?_⟩; go_big_quiet_on)))
                refine wpQuiet_nil ?_
                intro W hW
                go_wp2_with fail
                go_meet
                exact ⟨by rw [HNB2.out]; unfold spanB; simp [show ¬ x1 ≤ x2 from by omega], hW.2.2.2⟩
              · have r2 : decide (x2 < x1) = false := decide_eq_false p2
                by_cases p3 : boundV op < x2
                · have r3 : decide (boundV op < x2) = true := decide_eq_true p3
                  refine wp_region_quiet (C := fun W => W.cell? ⟨wr.heap.size, 0, none⟩ = some (.int .i64 x1) ∧ W.cell? ⟨wr.heap.size, 1, none⟩ = some (.int .i64 x2) ∧ W.cell? ⟨w.heap.size, 0, none⟩ = some (.int .i64 op) ∧ Below w7.heap.size w7 W) (by kernel_rfl) (by kernel_rfl) ⟨s0, s1, c07, ⟨rfl, rfl, rfl, Nat.le_refl _, fun _ _ => rfl⟩⟩ ?_
                  dsimp only
                  repeat (first | go_big_quiet_skip | (go_big_quiet_want; go_big_quiet_op; first | go_big_quiet_on | (refine Exists.intro (Value.int .i64 x1) (And.intro ?_ ?_); (focus (intro W q1 q2 q3 q4; rw [q1]; exact ⟨rfl, rfl⟩)); go_big_quiet_on) | (refine Exists.intro (Value.int .i64 x2) (And.intro ?_ ?_); (focus (intro W q1 q2 q3 q4; rw [q2]; exact ⟨rfl, rfl⟩)); go_big_quiet_on) | (refine Exists.intro (Value.int .i64 op) (And.intro ?_ ?_); (focus (intro W q1 q2 q3 q4; rw [q3]; exact ⟨rfl, rfl⟩)); go_big_quiet_on) | (refine Exists.intro (Value.int .i64 (boundV op)) (And.intro ?_ ?_); (focus (intro W q1 q2 q3 q4; exact (bound_any op W).mono (fun ex W2 hh => by obtain ⟨h1, h2⟩ := hh; subst h2; exact ⟨h1, q1, q2, q3, q4⟩))); go_big_quiet_on) | (refine ⟨_, fun _ _ _ _ _ => rfl, ?_⟩; go_big_quiet_on)))
                  refine wpQuiet_nil ?_
                  intro W hW
                  go_wp2_with fail
                  go_meet
                  exact ⟨by rw [HNB2.out]; unfold spanB; simp [show ¬ x2 ≤ boundV op from by omega], hW.2.2.2⟩
                · have r3 : decide (boundV op < x2) = false := decide_eq_false p3
                  refine wp_region_quiet (C := fun W => W.cell? ⟨wr.heap.size, 0, none⟩ = some (.int .i64 x1) ∧ W.cell? ⟨wr.heap.size, 1, none⟩ = some (.int .i64 x2) ∧ W.cell? ⟨w.heap.size, 0, none⟩ = some (.int .i64 op) ∧ Below w7.heap.size w7 W) (by kernel_rfl) (by kernel_rfl) ⟨s0, s1, c07, ⟨rfl, rfl, rfl, Nat.le_refl _, fun _ _ => rfl⟩⟩ ?_
                  dsimp only
                  repeat (first | go_big_quiet_skip | (go_big_quiet_want; go_big_quiet_op; first | go_big_quiet_on | (refine Exists.intro (Value.int .i64 x1) (And.intro ?_ ?_); (focus (intro W q1 q2 q3 q4; rw [q1]; exact ⟨rfl, rfl⟩)); go_big_quiet_on) | (refine Exists.intro (Value.int .i64 x2) (And.intro ?_ ?_); (focus (intro W q1 q2 q3 q4; rw [q2]; exact ⟨rfl, rfl⟩)); go_big_quiet_on) | (refine Exists.intro (Value.int .i64 op) (And.intro ?_ ?_); (focus (intro W q1 q2 q3 q4; rw [q3]; exact ⟨rfl, rfl⟩)); go_big_quiet_on) | (refine Exists.intro (Value.int .i64 (boundV op)) (And.intro ?_ ?_); (focus (intro W q1 q2 q3 q4; exact (bound_any op W).mono (fun ex W2 hh => by obtain ⟨h1, h2⟩ := hh; subst h2; exact ⟨h1, q1, q2, q3, q4⟩))); go_big_quiet_on) | (refine ⟨_, fun _ _ _ _ _ => rfl, ?_⟩; go_big_quiet_on)))
                  refine wpQuiet_nil ?_
                  intro W hW
                  go_wp2_with fail
                  go_meet
                  exact ⟨by rw [HNB2.out]; unfold spanB; simp [show 0 ≤ x1 from by omega, show x1 ≤ x2 from by omega, show x2 ≤ boundV op from by omega], hW.2.2.2⟩
          case rest =>
            obtain ⟨rfl, hbc7⟩ := hcut
            have hbf := HBW.out.trans ((HB7.out.trans (hbc7.mono HB7.out.size)).mono HBW.out.size)
            have HBF := Lib.hid hbf
            have hall := HALL.out
            have hnb := HNB2.out
            cases hsb : spanB op (x1, x2) with
            | false =>
              rw [hsb] at hall hnb
              obtain rfl : nb2 = true := hnb
              have HALL2 := Lib.hid hall
              clear hall hbc7 hbf hsb s0 s1 c07
              go_wp2
              go_ret
              exact ⟨ret_bool (by rw [HALL2.out]; rfl), HB1.out.trans (HBF.out.mono HB1.out.size)⟩
            | true =>
              rw [hsb, Bool.true_and] at hall
              rw [hsb] at hnb
              obtain rfl : nb2 = false := hnb
              have HALL2 := Lib.hid hall
              clear hall hbc7 hbf hsb s0 s1 c07
              go_wp2
              go_roundw
              case rel => exact ⟨i + 1, by omega, by go_num, HALL2.out, HBF.out⟩
              case measure => simp [intOf] <;> omega
        · have i1 : ¬ (i : Int) < (n : Int) := by omega
          have hd : sp.drop i = [] := List.drop_eq_nil_of_le (by have := HN.out; omega)
          rw [hd, List.all_nil] at hall
          have HALL := Lib.hid hall
          clear hall hd hb
          go_wp2
          go_ret
          exact ⟨ret_bool (by rw [HALL.out]), HB1.out.trans (HBW.out.mono HB1.out.size)⟩
  end Go.Proofs.YtbkcmgjmhglghaaGreatDoor
