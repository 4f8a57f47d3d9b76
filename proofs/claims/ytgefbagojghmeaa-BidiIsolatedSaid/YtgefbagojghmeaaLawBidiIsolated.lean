/-
  The law BidiIsolated: around an isolate the levels and the order do not hang on its inside.
-/
import Derived.Test.YtgefbagojghmeaaIso1
import Derived.Test.YtgefbagojghmeaaLawBidiLevels
import Derived.Test.YtgefbagojghmeaaU8W15
import Derived.Test.YtgefbagojghmeaaU8W7
import Derived.Deep.DeepCutAuto
import Derived.Deep.CutBlock
import Derived.BigQuiet
namespace Go.Proofs.Ytgefbagojghmeaa
open Go.RowKit

theorem els_short (s : ByteArray) : (ints (U8.els s.data.toList)).length ≤ s.size := by
  have h3 := U8.els_len s.data.toList
  rw [U8.size_len] at h3
  unfold ints
  rw [List.length_map]
  exact h3
/-- The text around an isolate. -/
def isoText (m : Nat) (A B x : ByteArray) : ByteArray := A ++ opens m ++ x ++ ⟨#[226, 129, 169]⟩ ++ B
/-- The answer of around. -/
def isoOut (m : Nat) (A B x : ByteArray) (rtl : Bool) : List Int :=
  aroundL (lev (ints (U8.els (isoText m A B x).data.toList)) (eOf rtl)) ((ints (U8.els A.data.toList)).length + 1) (ints (U8.els x.data.toList)).length
theorem iso_depth {m : Nat} {A B x : ByteArray} (hc : cnt 0 (ints (U8.els x.data.toList)) = true) (hd : mh 0 (ints (U8.els A.data.toList)) + mh 0 (ints (U8.els B.data.toList)) + mh 0 (ints (U8.els x.data.toList)) < 30) : mh 0 (ints (U8.els (isoText m A B x).data.toList)) ≤ 30 := by
  unfold isoText
  rw [els_text]
  have := mh_iso (o := openI m) (p := 8297) (openI_init m) pdi_shut (A := ints (U8.els A.data.toList)) (B := ints (U8.els B.data.toList)) hc
  omega
theorem iso_same {m : Nat} {A B x y : ByteArray} {rtl : Bool} (hx : cnt 0 (ints (U8.els x.data.toList)) = true) (hy : cnt 0 (ints (U8.els y.data.toList)) = true) (hd1 : mh 0 (ints (U8.els A.data.toList)) + mh 0 (ints (U8.els B.data.toList)) + mh 0 (ints (U8.els x.data.toList)) < 30)
    (hd2 : mh 0 (ints (U8.els A.data.toList)) + mh 0 (ints (U8.els B.data.toList)) + mh 0 (ints (U8.els y.data.toList)) < 30) : isoOut m A B x rtl = isoOut m A B y rtl := by
  have d1 := iso_depth (m := m) hx hd1
  have d2 := iso_depth (m := m) hy hd2
  unfold isoOut
  unfold isoText at d1 d2 ⊢
  rw [els_text] at d1 d2 ⊢
  rw [els_text]
  exact (around_iso (openI_init m) pdi_shut hx hy d1 d2).1
theorem iso_len2 (m : Nat) (A B x : ByteArray) : (ints (U8.els (isoText m A B x).data.toList)).length = (ints (U8.els A.data.toList)).length + 1 + (ints (U8.els x.data.toList)).length + 1 + (ints (U8.els B.data.toList)).length := by
  unfold isoText
  rw [els_text]
  simp only [List.length_append, List.length_cons]
  omega
theorem opens_size (m : Nat) : (opens m).size ≤ 3 := by
  match m with
  | 0 => exact Nat.le_refl _
  | 1 => exact Nat.le_refl _
  | _ + 2 => exact Nat.le_refl _
theorem around_here (m : Nat) (A B x : ByteArray) (kd : Nat) (rtl : Bool) (hA : A.size ≤ 100) (hB : B.size ≤ 100) (hx : x.size ≤ 100) (hc : cnt 0 (ints (U8.els x.data.toList)) = true) (hd : mh 0 (ints (U8.els A.data.toList)) + mh 0 (ints (U8.els B.data.toList)) + mh 0 (ints (U8.els x.data.toList)) < 30) (w : World) :
    Calls Try.prog 27 #[.agg #[.string A, .string B, .int .u8 kd, .bool rtl], .string (opens m), .string x] w fun e w' => ∃ v, e = .returned (.tuple #[v, .bool true]) ∧ IsInts w' w'.heap.size v (isoOut m A B x rtl) ∧ Below w.heap.size w w' := by
  have h1 := els_short A
  have h2 := els_short B
  have h3 := els_short x
  have hl := iso_len2 m A B x
  exact around_any A B (opens m) x kd rtl hA hB (opens_size m) hx _ rfl (iso_depth hc hd) (by have : (isoText m A B x) = A ++ opens m ++ x ++ ⟨#[226, 129, 169]⟩ ++ B := rfl; rw [← this]; omega) _ _ rfl rfl (by have : (isoText m A B x) = A ++ opens m ++ x ++ ⟨#[226, 129, 169]⟩ ++ B := rfl; rw [← this]; omega) w
theorem isoOut_len (m : Nat) (A B x : ByteArray) (rtl : Bool) (hA : A.size ≤ 100) (hB : B.size ≤ 100) (hx : x.size ≤ 100) : (isoOut m A B x rtl).length ≤ 100000 := by
  have h1 := els_short A
  have h2 := els_short B
  have h4 := els_short x
  have h3 := aroundL_len (lev (ints (U8.els (isoText m A B x).data.toList)) (eOf rtl)) ((ints (U8.els A.data.toList)).length + 1) (ints (U8.els x.data.toList)).length
  rw [lev_len, iso_len2] at h3
  unfold isoOut
  omega
/-- The end of the plain part. -/
def dV (s : ByteArray) : Nat := mh 0 (ints (U8.els s.data.toList))
theorem depth_here (s : ByteArray) (hs : s.size ≤ 100) (W : World) : Calls Try.prog 23 #[.string s] W fun e w' => e = .returned (.int .i64 (dV s : Nat)) ∧ Below W.heap.size W w' := refdepth_any s (by omega) W
theorem dV_le (s : ByteArray) : dV s ≤ s.size := by
  have l1 := mh_bound (ints (U8.els s.data.toList))
  have l2 := els_short s
  unfold dV
  omega
theorem box_cells {W : World} {g : Nat} {A B : ByteArray} {kd : Int} {rtl : Bool} (h : W.heap[g]? = some (.cells #[.string A, .string B, .int .u8 kd, .bool rtl] 37 (0, 0))) : W.cell? ⟨g, 0, none⟩ = some (.string A) ∧ W.cell? ⟨g, 1, none⟩ = some (.string B) ∧ W.cell? ⟨g, 2, none⟩ = some (.int .u8 kd) ∧ W.cell? ⟨g, 3, none⟩ = some (.bool rtl) := by
  refine ⟨?_, ?_, ?_, ?_⟩
  all_goals
    rw [Lib.cell_of_heap h]
    rfl
set_option maxRecDepth 100000 in
set_option maxHeartbeats 16000000 in
theorem law_BidiIsolatedN (A B : ByteArray) (kd : Nat) (rtl : Bool) (x y : ByteArray) (hA : A.size ≤ 140737488351232) (hB : B.size ≤ 140737488351232) (hx : x.size ≤ 140737488351232) (hy : y.size ≤ 140737488351232) (hk : kd ≤ 255) (w : World) : Calls Try.prog 8 #[.agg #[.string A, .string B, .int .u8 kd, .bool rtl], .string x, .string y] w (TrueP w) := by
  by_cases g1 : 100 < A.size + B.size
  · have d1 : decide (100 < (A.size : Int) + (B.size : Int)) = true := decide_eq_true (by omega)
    clear g1
    go_enter Try.func8, Try.ntmps8
    go_wp2_with fail
    refine (awake23_any _).mono ?_
    rintro e w1 ⟨rfl, hb1⟩
    have hbx1 : w1.heap[w.heap.size]? = some (.cells #[.string A, .string B, .int .u8 kd, .bool rtl] 37 (0, 0)) := (hb1.block w.heap.size (by simp)).trans (heap_alloc_new w _)
    have hB1 : Below w.heap.size w w1 := ((Below.refl _ _).alloc (Nat.le_refl _) _).trans (hb1.mono (by simp))
    have HX1 := Lib.hid hbx1
    have HB1 := Lib.hid hB1
    have hg1 := (Array.getElem?_eq_some_iff.1 hbx1).1
    have HG1 := Lib.hid hg1
    obtain ⟨c0, c1, c2, c3⟩ := box_cells hbx1
    clear hb1 hbx1 hB1 hg1
    go_wp2_with fail
    refine (awake23_any _).mono ?_
    rintro e w9 ⟨rfl, hb9⟩
    have HB9 := Lib.hid (HB1.out.trans (hb9.mono HB1.out.size))
    clear hb9
    go_wp2
    go_ret
    exact ⟨rfl, HB9.out⟩
  · have d1 : decide (100 < (A.size : Int) + (B.size : Int)) = false := decide_eq_false (by omega)
    by_cases g2 : 100 < x.size
    · have d2 : decide (100 < (x.size : Int)) = true := decide_eq_true (by omega)
      clear g1 g2
      go_enter Try.func8, Try.ntmps8
      go_wp2_with fail
      refine (awake23_any _).mono ?_
      rintro e w1 ⟨rfl, hb1⟩
      have hbx1 : w1.heap[w.heap.size]? = some (.cells #[.string A, .string B, .int .u8 kd, .bool rtl] 37 (0, 0)) := (hb1.block w.heap.size (by simp)).trans (heap_alloc_new w _)
      have hB1 : Below w.heap.size w w1 := ((Below.refl _ _).alloc (Nat.le_refl _) _).trans (hb1.mono (by simp))
      have HX1 := Lib.hid hbx1
      have HB1 := Lib.hid hB1
      have hg1 := (Array.getElem?_eq_some_iff.1 hbx1).1
      have HG1 := Lib.hid hg1
      obtain ⟨c0, c1, c2, c3⟩ := box_cells hbx1
      clear hb1 hbx1 hB1 hg1
      go_wp2_with fail
      refine (awake23_any _).mono ?_
      rintro e w9 ⟨rfl, hb9⟩
      have HB9 := Lib.hid (HB1.out.trans (hb9.mono HB1.out.size))
      clear hb9
      go_wp2
      go_ret
      exact ⟨rfl, HB9.out⟩
    · have d2 : decide (100 < (x.size : Int)) = false := decide_eq_false (by omega)
      by_cases g3 : 100 < y.size
      · have d3 : decide (100 < (y.size : Int)) = true := decide_eq_true (by omega)
        clear g1 g2 g3
        go_enter Try.func8, Try.ntmps8
        go_wp2_with fail
        refine (awake23_any _).mono ?_
        rintro e w1 ⟨rfl, hb1⟩
        have hbx1 : w1.heap[w.heap.size]? = some (.cells #[.string A, .string B, .int .u8 kd, .bool rtl] 37 (0, 0)) := (hb1.block w.heap.size (by simp)).trans (heap_alloc_new w _)
        have hB1 : Below w.heap.size w w1 := ((Below.refl _ _).alloc (Nat.le_refl _) _).trans (hb1.mono (by simp))
        have HX1 := Lib.hid hbx1
        have HB1 := Lib.hid hB1
        have hg1 := (Array.getElem?_eq_some_iff.1 hbx1).1
        have HG1 := Lib.hid hg1
        obtain ⟨c0, c1, c2, c3⟩ := box_cells hbx1
        clear hb1 hbx1 hB1 hg1
        go_wp2_with fail
        refine (awake23_any _).mono ?_
        rintro e w9 ⟨rfl, hb9⟩
        have HB9 := Lib.hid (HB1.out.trans (hb9.mono HB1.out.size))
        clear hb9
        go_wp2
        go_ret
        exact ⟨rfl, HB9.out⟩
      · have d3 : decide (100 < (y.size : Int)) = false := decide_eq_false (by omega)
        have hA1 : A.size ≤ 100 := by omega
        have hB1 : B.size ≤ 100 := by omega
        have hx1 : x.size ≤ 100 := by omega
        have hy1 : y.size ≤ 100 := by omega
        have r1 := refvalid_any A (by omega)
        have r2 := matched_any x (by omega)
        have r3 := matched_any y (by omega)
        unfold ValP at r1
        unfold MatchedP at r2 r3
        clear g1 g2 g3 hA hB hx hy
        cases g4 : Lib.validD A.data.toList with
        | false =>
          rw [g4] at r1
          have R1 := Lib.hid r1
          clear r1 r2 r3 g4
          go_enter Try.func8, Try.ntmps8
          go_wp2_with fail
          refine (awake23_any _).mono ?_
          rintro e w1 ⟨rfl, hb1⟩
          have hbx1 : w1.heap[w.heap.size]? = some (.cells #[.string A, .string B, .int .u8 kd, .bool rtl] 37 (0, 0)) := (hb1.block w.heap.size (by simp)).trans (heap_alloc_new w _)
          have hB1 : Below w.heap.size w w1 := ((Below.refl _ _).alloc (Nat.le_refl _) _).trans (hb1.mono (by simp))
          have HX1 := Lib.hid hbx1
          have HB1 := Lib.hid hB1
          have hg1 := (Array.getElem?_eq_some_iff.1 hbx1).1
          have HG1 := Lib.hid hg1
          obtain ⟨c0, c1, c2, c3⟩ := box_cells hbx1
          clear hb1 hbx1 hB1 hg1
          go_wp2_with fail
          refine (R1.out _).mono ?_
          rintro e w2 ⟨rfl, hb2⟩
          have HX2 := Lib.hid ((hb2.block w.heap.size HG1.out).trans HX1.out)
          have HG2 := Lib.hid (Nat.lt_of_lt_of_le HG1.out hb2.size)
          have HB2 := Lib.hid (HB1.out.trans (hb2.mono HB1.out.size))
          clear hb2
          go_wp2_with fail
          refine (awake23_any _).mono ?_
          rintro e w9 ⟨rfl, hb9⟩
          have HB9 := Lib.hid (HB2.out.trans (hb9.mono HB2.out.size))
          clear hb9
          go_wp2
          go_ret
          exact ⟨rfl, HB9.out⟩
        | true =>
          rw [g4] at r1
          cases g5 : cnt 0 (ints (U8.els x.data.toList)) with
          | false =>
            rw [g5] at r2
            have R1 := Lib.hid r1
            have R2 := Lib.hid r2
            clear r1 r2 r3 g4 g5
            go_enter Try.func8, Try.ntmps8
            go_wp2_with fail
            refine (awake23_any _).mono ?_
            rintro e w1 ⟨rfl, hb1⟩
            have hbx1 : w1.heap[w.heap.size]? = some (.cells #[.string A, .string B, .int .u8 kd, .bool rtl] 37 (0, 0)) := (hb1.block w.heap.size (by simp)).trans (heap_alloc_new w _)
            have hB1 : Below w.heap.size w w1 := ((Below.refl _ _).alloc (Nat.le_refl _) _).trans (hb1.mono (by simp))
            have HX1 := Lib.hid hbx1
            have HB1 := Lib.hid hB1
            have hg1 := (Array.getElem?_eq_some_iff.1 hbx1).1
            have HG1 := Lib.hid hg1
            obtain ⟨c0, c1, c2, c3⟩ := box_cells hbx1
            clear hb1 hbx1 hB1 hg1
            go_wp2_with fail
            refine (R1.out _).mono ?_
            rintro e w2 ⟨rfl, hb2⟩
            have HX2 := Lib.hid ((hb2.block w.heap.size HG1.out).trans HX1.out)
            have HG2 := Lib.hid (Nat.lt_of_lt_of_le HG1.out hb2.size)
            have HB2 := Lib.hid (HB1.out.trans (hb2.mono HB1.out.size))
            clear hb2
            go_wp2_with fail
            refine (R2.out _).mono ?_
            rintro e w3 ⟨rfl, hb3⟩
            have HX3 := Lib.hid ((hb3.block w.heap.size HG2.out).trans HX2.out)
            have HG3 := Lib.hid (Nat.lt_of_lt_of_le HG2.out hb3.size)
            have HB3 := Lib.hid (HB2.out.trans (hb3.mono HB2.out.size))
            clear hb3
            go_wp2_with fail
            refine (awake23_any _).mono ?_
            rintro e w9 ⟨rfl, hb9⟩
            have HB9 := Lib.hid (HB3.out.trans (hb9.mono HB3.out.size))
            clear hb9
            go_wp2
            go_ret
            exact ⟨rfl, HB9.out⟩
          | true =>
            rw [g5] at r2
            cases g6 : cnt 0 (ints (U8.els y.data.toList)) with
            | false =>
              rw [g6] at r3
              have R1 := Lib.hid r1
              have R2 := Lib.hid r2
              have R3 := Lib.hid r3
              clear r1 r2 r3 g4 g5 g6
              go_enter Try.func8, Try.ntmps8
              go_wp2_with fail
              refine (awake23_any _).mono ?_
              rintro e w1 ⟨rfl, hb1⟩
              have hbx1 : w1.heap[w.heap.size]? = some (.cells #[.string A, .string B, .int .u8 kd, .bool rtl] 37 (0, 0)) := (hb1.block w.heap.size (by simp)).trans (heap_alloc_new w _)
              have hB1 : Below w.heap.size w w1 := ((Below.refl _ _).alloc (Nat.le_refl _) _).trans (hb1.mono (by simp))
              have HX1 := Lib.hid hbx1
              have HB1 := Lib.hid hB1
              have hg1 := (Array.getElem?_eq_some_iff.1 hbx1).1
              have HG1 := Lib.hid hg1
              obtain ⟨c0, c1, c2, c3⟩ := box_cells hbx1
              clear hb1 hbx1 hB1 hg1
              go_wp2_with fail
              refine (R1.out _).mono ?_
              rintro e w2 ⟨rfl, hb2⟩
              have HX2 := Lib.hid ((hb2.block w.heap.size HG1.out).trans HX1.out)
              have HG2 := Lib.hid (Nat.lt_of_lt_of_le HG1.out hb2.size)
              have HB2 := Lib.hid (HB1.out.trans (hb2.mono HB1.out.size))
              clear hb2
              go_wp2_with fail
              refine (R2.out _).mono ?_
              rintro e w3 ⟨rfl, hb3⟩
              have HX3 := Lib.hid ((hb3.block w.heap.size HG2.out).trans HX2.out)
              have HG3 := Lib.hid (Nat.lt_of_lt_of_le HG2.out hb3.size)
              have HB3 := Lib.hid (HB2.out.trans (hb3.mono HB2.out.size))
              clear hb3
              go_wp2_with fail
              refine (R3.out _).mono ?_
              rintro e w4 ⟨rfl, hb4⟩
              have HX4 := Lib.hid ((hb4.block w.heap.size HG3.out).trans HX3.out)
              have HG4 := Lib.hid (Nat.lt_of_lt_of_le HG3.out hb4.size)
              have HB4 := Lib.hid (HB3.out.trans (hb4.mono HB3.out.size))
              clear hb4
              go_wp2_with fail
              refine (awake23_any _).mono ?_
              rintro e w9 ⟨rfl, hb9⟩
              have HB9 := Lib.hid (HB4.out.trans (hb9.mono HB4.out.size))
              clear hb9
              go_wp2
              go_ret
              exact ⟨rfl, HB9.out⟩
            | true =>
              rw [g6] at r3
              have R1 := Lib.hid r1
              have R2 := Lib.hid r2
              have R3 := Lib.hid r3
              have z1 := dV_le A
              have z2 := dV_le B
              have z3 := dV_le x
              have z4 := dV_le y
              have v1 := fun m (h : dV A + dV B + dV x < 30) => around_here m A B x kd rtl hA1 hB1 hx1 g5 h
              have v2 := fun m (h : dV A + dV B + dV y < 30) => around_here m A B y kd rtl hA1 hB1 hy1 g6 h
              have v3 := fun m (h : dV A + dV B + dV x < 30) (h' : dV A + dV B + dV y < 30) => iso_same (m := m) (A := A) (B := B) (rtl := rtl) g5 g6 h h'
              have v4 := fun m => isoOut_len m A B y rtl hA1 hB1 hy1
              obtain ⟨dm, hdm⟩ : ∃ dm, max (dV x) (dV y) = dm := ⟨_, rfl⟩
              have la : dV A ≤ 100 := by omega
              have lb : dV B ≤ 100 := by omega
              have l3 : dV x ≤ 100 := by omega
              have l4 : dV y ≤ 100 := by omega
              have lm : dm ≤ 100 := by omega
              have hmx : max (dV x : Int) (dV y : Int) = (dm : Int) := by omega
              have lx : dV x ≤ dm := by omega
              have ly : dV y ≤ dm := by omega
              have QALL := Lib.hid depth_here
              have V1 := Lib.hid v1
              have V2 := Lib.hid v2
              have V3 := Lib.hid v3
              have V4 := Lib.hid v4
              have LX := Lib.hid lx
              have LY := Lib.hid ly
              clear r1 r2 r3 g4 g5 g6 z1 z2 z3 z4 v1 v2 v3 v4 hdm lx ly
              by_cases g7 : 30 ≤ dV A + dV B + dm
              · have d7 : decide (30 ≤ (dV A : Int) + (dV B : Int) + (dm : Int)) = true := decide_eq_true (by omega)
                clear g7
                go_enter Try.func8, Try.ntmps8
                go_wp2_with fail
                refine (awake23_any _).mono ?_
                rintro e w1 ⟨rfl, hb1⟩
                have hbx1 : w1.heap[w.heap.size]? = some (.cells #[.string A, .string B, .int .u8 kd, .bool rtl] 37 (0, 0)) := (hb1.block w.heap.size (by simp)).trans (heap_alloc_new w _)
                have hB1 : Below w.heap.size w w1 := ((Below.refl _ _).alloc (Nat.le_refl _) _).trans (hb1.mono (by simp))
                have HX1 := Lib.hid hbx1
                have HB1 := Lib.hid hB1
                have hg1 := (Array.getElem?_eq_some_iff.1 hbx1).1
                have HG1 := Lib.hid hg1
                obtain ⟨c0, c1, c2, c3⟩ := box_cells hbx1
                clear hb1 hbx1 hB1 hg1
                go_wp2_with fail
                refine (R1.out _).mono ?_
                rintro e w2 ⟨rfl, hb2⟩
                have HX2 := Lib.hid ((hb2.block w.heap.size HG1.out).trans HX1.out)
                have HG2 := Lib.hid (Nat.lt_of_lt_of_le HG1.out hb2.size)
                have HB2 := Lib.hid (HB1.out.trans (hb2.mono HB1.out.size))
                clear hb2
                go_wp2_with fail
                refine (R2.out _).mono ?_
                rintro e w3 ⟨rfl, hb3⟩
                have HX3 := Lib.hid ((hb3.block w.heap.size HG2.out).trans HX2.out)
                have HG3 := Lib.hid (Nat.lt_of_lt_of_le HG2.out hb3.size)
                have HB3 := Lib.hid (HB2.out.trans (hb3.mono HB2.out.size))
                clear hb3
                go_wp2_with fail
                refine (R3.out _).mono ?_
                rintro e w4 ⟨rfl, hb4⟩
                have HX4 := Lib.hid ((hb4.block w.heap.size HG3.out).trans HX3.out)
                have HG4 := Lib.hid (Nat.lt_of_lt_of_le HG3.out hb4.size)
                have HB4 := Lib.hid (HB3.out.trans (hb4.mono HB3.out.size))
                clear c0 c1 c2 c3
                obtain ⟨c0, c1, c2, c3⟩ := box_cells HX4.out
                clear hb4
                go_upto_region 5 with fail
                go_cut [62] (fun ov wx => ov = .bool true ∧ Below w4.heap.size w4 wx)
                case first =>
                  refine wp_region_quiet (C := fun W => W.cell? ⟨w.heap.size, 0, none⟩ = some (.string A) ∧ W.cell? ⟨w.heap.size, 1, none⟩ = some (.string B) ∧ Below w4.heap.size w4 W) (by kernel_rfl) (by kernel_rfl) ⟨c0, c1, ⟨rfl, rfl, rfl, Nat.le_refl _, fun _ _ => rfl⟩⟩ ?_
                  dsimp only
                  repeat (first | go_big_quiet_skip | (go_big_quiet_want; go_big_quiet_op; first | go_big_quiet_on | (refine Exists.intro (Value.string A) (And.intro ?_ ?_); (focus (intro W q1 q2 q3; rw [q1]; exact ⟨rfl, rfl⟩)); go_big_quiet_on) | (refine Exists.intro (Value.string B) (And.intro ?_ ?_); (focus (intro W q1 q2 q3; rw [q2]; exact ⟨rfl, rfl⟩)); go_big_quiet_on) | (apply Exists.intro; apply And.intro; (focus (intro W q1 q2 q3; exact (QALL.out _ (by assumption) W).mono (fun ex W2 hh => ⟨hh.1, ((hh.2).cell (p := ⟨w.heap.size, 0, none⟩) (World.block_lt_of_cell? W _ q1)).trans q1, ((hh.2).cell (p := ⟨w.heap.size, 1, none⟩) (World.block_lt_of_cell? W _ q2)).trans q2, q3.trans (hh.2.mono q3.size)⟩))); go_big_quiet_on) | (refine ⟨_, fun _ _ _ _ => rfl, ?_⟩; go_big_quiet_on)))
                  refine wpQuiet_nil ?_
                  intro W hW
                  go_wp2_with fail
                  go_meet
                  exact ⟨rfl, hW.2.2⟩
                case rest =>
                  obtain ⟨rfl, hbc⟩ := hcut
                  have HB5 := Lib.hid (HB4.out.trans (hbc.mono HB4.out.size))
                  clear hbc
                  go_wp2
                  go_ret
                  exact ⟨rfl, HB5.out⟩
              · have d7 : decide (30 ≤ (dV A : Int) + (dV B : Int) + (dm : Int)) = false := decide_eq_false (by omega)
                have U1 := Lib.hid (fun m => V1.out m (by have := LX.out; omega))
                have U2 := Lib.hid (fun m => V2.out m (by have := LY.out; omega))
                have U3 := Lib.hid (fun m => V3.out m (by have := LX.out; omega) (by have := LY.out; omega))
                clear g7 V1 V2 V3
                go_enter Try.func8, Try.ntmps8
                go_wp2_with fail
                refine (awake23_any _).mono ?_
                rintro e w1 ⟨rfl, hb1⟩
                have hbx1 : w1.heap[w.heap.size]? = some (.cells #[.string A, .string B, .int .u8 kd, .bool rtl] 37 (0, 0)) := (hb1.block w.heap.size (by simp)).trans (heap_alloc_new w _)
                have hB1 : Below w.heap.size w w1 := ((Below.refl _ _).alloc (Nat.le_refl _) _).trans (hb1.mono (by simp))
                have HX1 := Lib.hid hbx1
                have HB1 := Lib.hid hB1
                have hg1 := (Array.getElem?_eq_some_iff.1 hbx1).1
                have HG1 := Lib.hid hg1
                obtain ⟨c0, c1, c2, c3⟩ := box_cells hbx1
                clear hb1 hbx1 hB1 hg1
                go_wp2_with fail
                refine (R1.out _).mono ?_
                rintro e w2 ⟨rfl, hb2⟩
                have HX2 := Lib.hid ((hb2.block w.heap.size HG1.out).trans HX1.out)
                have HG2 := Lib.hid (Nat.lt_of_lt_of_le HG1.out hb2.size)
                have HB2 := Lib.hid (HB1.out.trans (hb2.mono HB1.out.size))
                clear hb2
                go_wp2_with fail
                refine (R2.out _).mono ?_
                rintro e w3 ⟨rfl, hb3⟩
                have HX3 := Lib.hid ((hb3.block w.heap.size HG2.out).trans HX2.out)
                have HG3 := Lib.hid (Nat.lt_of_lt_of_le HG2.out hb3.size)
                have HB3 := Lib.hid (HB2.out.trans (hb3.mono HB2.out.size))
                clear hb3
                go_wp2_with fail
                refine (R3.out _).mono ?_
                rintro e w4 ⟨rfl, hb4⟩
                have HX4 := Lib.hid ((hb4.block w.heap.size HG3.out).trans HX3.out)
                have HG4 := Lib.hid (Nat.lt_of_lt_of_le HG3.out hb4.size)
                have HB4 := Lib.hid (HB3.out.trans (hb4.mono HB3.out.size))
                clear c0 c1 c2 c3
                obtain ⟨c0, c1, c2, c3⟩ := box_cells HX4.out
                clear hb4
                go_upto_region 5 with fail
                go_cut [62] (fun ov wx => ov = .bool false ∧ Below w4.heap.size w4 wx)
                case first =>
                  refine wp_region_quiet (C := fun W => W.cell? ⟨w.heap.size, 0, none⟩ = some (.string A) ∧ W.cell? ⟨w.heap.size, 1, none⟩ = some (.string B) ∧ Below w4.heap.size w4 W) (by kernel_rfl) (by kernel_rfl) ⟨c0, c1, ⟨rfl, rfl, rfl, Nat.le_refl _, fun _ _ => rfl⟩⟩ ?_
                  dsimp only
                  repeat (first | go_big_quiet_skip | (go_big_quiet_want; go_big_quiet_op; first | go_big_quiet_on | (refine Exists.intro (Value.string A) (And.intro ?_ ?_); (focus (intro W q1 q2 q3; rw [q1]; exact ⟨rfl, rfl⟩)); go_big_quiet_on) | (refine Exists.intro (Value.string B) (And.intro ?_ ?_); (focus (intro W q1 q2 q3; rw [q2]; exact ⟨rfl, rfl⟩)); go_big_quiet_on) | (apply Exists.intro; apply And.intro; (focus (intro W q1 q2 q3; exact (QALL.out _ (by assumption) W).mono (fun ex W2 hh => ⟨hh.1, ((hh.2).cell (p := ⟨w.heap.size, 0, none⟩) (World.block_lt_of_cell? W _ q1)).trans q1, ((hh.2).cell (p := ⟨w.heap.size, 1, none⟩) (World.block_lt_of_cell? W _ q2)).trans q2, q3.trans (hh.2.mono q3.size)⟩))); go_big_quiet_on) | (refine ⟨_, fun _ _ _ _ => rfl, ?_⟩; go_big_quiet_on)))
                  refine wpQuiet_nil ?_
                  intro W hW
                  go_wp2_with fail
                  go_meet
                  exact ⟨rfl, hW.2.2⟩
                case rest =>
                  obtain ⟨rfl, hbc⟩ := hcut
                  have HX5 := Lib.hid ((hbc.block w.heap.size HG4.out).trans HX4.out)
                  have HG5 := Lib.hid (Nat.lt_of_lt_of_le HG4.out hbc.size)
                  have HB5 := Lib.hid (HB4.out.trans (hbc.mono HB4.out.size))
                  clear c0 c1 c2 c3 hbc
                  obtain ⟨c0, c1, c2, c3⟩ := box_cells HX5.out
                  obtain ⟨m, hm⟩ : ∃ m, m = kd % 3 := ⟨_, rfl⟩
                  have hmt : (kd : Int).tmod 3 = (m : Int) := by rw [Int.tmod_eq_emod_of_nonneg (by omega), hm]; rfl
                  have hm3 : m < 3 := by omega
                  have k0 : (0 : Int) ≤ (kd : Int) := by omega
                  have k1 : (kd : Int) ≤ 255 := by omega
                  have m0 : (0 : Int) ≤ (m : Int) := by omega
                  have m1 : (m : Int) < 3 := by omega
                  have hbw : Below wc.heap.size wc (wc.alloc (.cells #[.string ⟨#[226, 129, 166]⟩, .string ⟨#[226, 129, 167]⟩, .string ⟨#[226, 129, 168]⟩] 9)) := (Below.refl _ _).alloc (Nat.le_refl _) _
                  obtain ⟨f0, f1, f2, f3⟩ := box_cells ((hbw.block w.heap.size HG5.out).trans HX5.out)
                  have HXB := Lib.hid ((hbw.block w.heap.size HG5.out).trans HX5.out)
                  have HBB := Lib.hid (HB5.out.trans (hbw.mono HB5.out.size))
                  have HGB := Lib.hid (Nat.lt_of_lt_of_le HG5.out hbw.size)
                  have fm : (wc.alloc (.cells #[.string ⟨#[226, 129, 166]⟩, .string ⟨#[226, 129, 167]⟩, .string ⟨#[226, 129, 168]⟩] 9)).cell? ⟨wc.heap.size, m, none⟩ = some (.string (opens m)) := by
                    rw [Lib.cell_of_heap (heap_alloc_new wc _)]
                    rcases (show m = 0 ∨ m = 1 ∨ m = 2 by omega) with rfl | rfl | rfl <;> rfl
                  clear hm hbw c0 c1 c2 c3
                  go_wp2_with fail
                  refine (U1.out m _).mono ?_
                  rintro e w6 ⟨v6, rfl, hi6, hb6⟩
                  have HX6 := Lib.hid ((hb6.block w.heap.size HGB.out).trans HXB.out)
                  have HG6 := Lib.hid (Nat.lt_of_lt_of_le HGB.out hb6.size)
                  have HB6 := Lib.hid (HBB.out.trans (hb6.mono HBB.out.size))
                  have HI6 := Lib.hid hi6
                  clear f0 f1 f2 f3 fm hi6 hb6
                  obtain ⟨c0, c1, c2, c3⟩ := box_cells HX6.out
                  go_wp2_with fail
                  refine (U2.out m _).mono ?_
                  rintro e w8 ⟨v8, rfl, hi8, hb8⟩
                  have HB8 := Lib.hid (HB6.out.trans (hb8.mono HB6.out.size))
                  have hsm := same_any v6 v8 _ _ _ _ w8 (HI6.out.below hb8) hi8 (by have := V4.out m; omega)
                  unfold SameP at hsm
                  rw [decide_eq_true (U3.out m)] at hsm
                  have HSA := Lib.hid hsm
                  clear hi8 hb8 hsm c0 c1 c2 c3
                  go_wp2_with fail
                  refine HSA.out.mono ?_
                  rintro e w9 ⟨rfl, hb9⟩
                  have HB9 := Lib.hid (HB8.out.trans (hb9.mono HB8.out.size))
                  clear hb9
                  go_wp2
                  go_ret
                  exact ⟨rfl, HB9.out⟩
theorem law_BidiIsolated (A B : ByteArray) (kd : Int) (rtl : Bool) (x y : ByteArray) (hA : A.size ≤ 140737488351232) (hB : B.size ≤ 140737488351232) (hx : x.size ≤ 140737488351232) (hy : y.size ≤ 140737488351232) (hk : 0 ≤ kd ∧ kd ≤ 255) (w : World) : Calls Try.prog 8 #[.agg #[.string A, .string B, .int .u8 kd, .bool rtl], .string x, .string y] w (TrueP w) := by
  obtain ⟨n, rfl⟩ : ∃ n : Nat, kd = n := ⟨kd.toNat, by omega⟩
  exact law_BidiIsolatedN A B n rtl x y hA hB hx hy (by omega) w
end Go.Proofs.Ytgefbagojghmeaa
