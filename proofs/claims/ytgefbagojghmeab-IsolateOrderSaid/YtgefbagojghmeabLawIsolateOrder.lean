/-
  The law IsolateOrder: around a wrapped string the levels and the order do not hang on the string.
-/
import Derived.Test.YtgefbagojghmeabIso3
import Derived.Test.YtgefbagojghmeabIs5
import Derived.Test.YtgefbagojghmeabIsP
import Derived.Test.YtgefbagojghmeabU8W7
import Derived.Deep.DeepCutAuto
import Derived.Deep.CutBlock
import Derived.BigQuiet
namespace Go.Proofs.Ytgefbagojghmeab
open Go.RowKit

/-- The wrapped form of a string, as bytes. -/
def wrapS (x : ByteArray) : ByteArray := encS (wrapL (ints (U8.els x.data.toList)))
theorem wrapS_form (x : ByteArray) : wrapS x = opens 2 ++ balS x ++ ⟨#[226, 129, 169]⟩ := wrapL_bytes _
theorem wrapS_text (A B x : ByteArray) : ints (U8.els (A ++ wrapS x ++ B).data.toList) = ints (U8.els A.data.toList) ++ 8296 :: (bal (ints (U8.els x.data.toList)) ++ 8297 :: ints (U8.els B.data.toList)) := by
  have h := els_text 2 A (balS x) B
  rw [els_balS] at h
  rw [wrapS_form, ← ByteArray.append_assoc, ← ByteArray.append_assoc]
  exact h
theorem wrapS_len (x : ByteArray) : (ints (U8.els (wrapS x).data.toList)).length = (bal (ints (U8.els x.data.toList))).length + 2 := by
  have h := wrapS_text ⟨#[]⟩ ⟨#[]⟩ x
  have e : (⟨#[]⟩ : ByteArray) ++ wrapS x ++ ⟨#[]⟩ = wrapS x := by
    apply ByteArray.ext
    rw [ByteArray.data_append, ByteArray.data_append]
    simp
  rw [e] at h
  rw [h]
  have e0 : ints (U8.els (⟨#[]⟩ : ByteArray).data.toList) = [] := rfl
  rw [e0]
  simp
theorem els_short (s : ByteArray) : (ints (U8.els s.data.toList)).length ≤ s.size := by
  have h3 := U8.els_len s.data.toList
  rw [U8.size_len] at h3
  unfold ints
  rw [List.length_map]
  exact h3
theorem wrapS_size (x : ByteArray) : (wrapS x).size ≤ 4 * x.size + 40 := by
  have h1 := encS_size (bal (ints (U8.els x.data.toList)))
  have h2 := bal_len (ints (U8.els x.data.toList))
  have h3 := els_short x
  rw [wrapS_form, ByteArray.size_append, ByteArray.size_append]
  have e1 : (opens 2).size = 3 := rfl
  have e2 : (⟨#[226, 129, 169]⟩ : ByteArray).size = 3 := rfl
  have e3 : balS x = encS (bal (ints (U8.els x.data.toList))) := rfl
  rw [e1, e2, e3]
  omega
/-- The answer of around for a wrapped string. -/
def isoOut (A B x : ByteArray) (rtl : Bool) : List Int :=
  aroundL (lev (ints (U8.els (A ++ wrapS x ++ B).data.toList)) (eOf rtl)) (ints (U8.els A.data.toList)).length ((bal (ints (U8.els x.data.toList))).length + 2)
theorem iso_depth {A B x : ByteArray} (hd : mh 0 (ints (U8.els A.data.toList)) + mh 0 (ints (U8.els B.data.toList)) ≤ 20) : mh 0 (ints (U8.els (A ++ wrapS x ++ B).data.toList)) ≤ 30 := by
  rw [wrapS_text]
  obtain ⟨b1, b2⟩ := bal_cnt (ints (U8.els x.data.toList))
  have := mh_iso (o := 8296) (p := 8297) (by decide) (by decide) (A := ints (U8.els A.data.toList)) (B := ints (U8.els B.data.toList)) b1
  omega
theorem iso_same {A B x y : ByteArray} {rtl : Bool} (hd : mh 0 (ints (U8.els A.data.toList)) + mh 0 (ints (U8.els B.data.toList)) ≤ 20) : isoOut A B x rtl = isoOut A B y rtl := by
  have d1 := iso_depth (x := x) hd
  have d2 := iso_depth (x := y) hd
  unfold isoOut
  rw [wrapS_text] at d1 d2 ⊢
  rw [wrapS_text]
  exact (around_iso (by decide) (by decide) (bal_cnt _).1 (bal_cnt _).1 d1 d2).2
theorem around_wrapped (A B x : ByteArray) (rtl : Bool) (hA : A.size ≤ 100) (hB : B.size ≤ 100) (hx : x.size ≤ 100) (hd : mh 0 (ints (U8.els A.data.toList)) + mh 0 (ints (U8.els B.data.toList)) ≤ 20) (w : World) :
    Calls Try.prog 6 #[.agg #[.string A, .string B, .bool rtl], .string (wrapS x)] w fun e w' => ∃ v, e = .returned (.tuple #[v, .bool true]) ∧ IsInts w' w'.heap.size v (isoOut A B x rtl) ∧ Below w.heap.size w w' := by
  have h1 := els_short A
  have h2 := els_short B
  have h3 := bal_len (ints (U8.els x.data.toList))
  have h4 := els_short x
  have h5 := wrapS_size x
  have hl : (ints (U8.els (A ++ wrapS x ++ B).data.toList)).length = (ints (U8.els A.data.toList)).length + (bal (ints (U8.els x.data.toList))).length + 2 + (ints (U8.els B.data.toList)).length := by
    rw [wrapS_text]
    simp only [List.length_append, List.length_cons]
    omega
  exact around_any A B (wrapS x) rtl hA hB (by omega) _ rfl (iso_depth hd) (by omega) _ _ (by omega) rfl (wrapS_len x) (by omega) w
/-- The end of the plain part. -/
theorem boxS_step {g : Nat} {A B : ByteArray} {rtl : Bool} {wx W0 w5 : World} (h : W0.cell? ⟨g, 0, none⟩ = some (.string A) ∧ W0.cell? ⟨g, 1, none⟩ = some (.string B) ∧ W0.cell? ⟨g, 2, none⟩ = some (.bool rtl) ∧ Below wx.heap.size wx W0) (hb : Below W0.heap.size W0 w5) :
    w5.cell? ⟨g, 0, none⟩ = some (.string A) ∧ w5.cell? ⟨g, 1, none⟩ = some (.string B) ∧ w5.cell? ⟨g, 2, none⟩ = some (.bool rtl) ∧ Below wx.heap.size wx w5 := by
  obtain ⟨h1, h2, h3, h4⟩ := h
  exact ⟨(hb.cell (p := ⟨g, 0, none⟩) (World.block_lt_of_cell? W0 _ h1)).trans h1, (hb.cell (p := ⟨g, 1, none⟩) (World.block_lt_of_cell? W0 _ h2)).trans h2, (hb.cell (p := ⟨g, 2, none⟩) (World.block_lt_of_cell? W0 _ h3)).trans h3, h4.trans (hb.mono h4.size)⟩
theorem wrap_here (x : ByteArray) (hx : x.size ≤ 100) (w : World) : Calls Try.prog 7 #[.string x] w fun e w' => e = .returned (.string (wrapS x)) ∧ Below w.heap.size w w' := wrap_any x (by omega) w
theorem isoOut_len (A B x : ByteArray) (rtl : Bool) (hA : A.size ≤ 100) (hB : B.size ≤ 100) (hx : x.size ≤ 100) : (isoOut A B x rtl).length ≤ 100000 := by
  have h1 := els_short (A ++ wrapS x ++ B)
  have h2 := wrapS_size x
  have h3 := aroundL_len (lev (ints (U8.els (A ++ wrapS x ++ B).data.toList)) (eOf rtl)) (ints (U8.els A.data.toList)).length ((bal (ints (U8.els x.data.toList))).length + 2)
  rw [lev_len] at h3
  rw [ByteArray.size_append, ByteArray.size_append] at h1
  unfold isoOut
  omega
set_option maxRecDepth 100000 in
set_option maxHeartbeats 8000000 in
theorem law_IsolateOrder (A B : ByteArray) (rtl : Bool) (x y : ByteArray) (hA : A.size ≤ 140737488351232) (hB : B.size ≤ 140737488351232) (hx : x.size ≤ 140737488351232) (hy : y.size ≤ 140737488351232) (w : World) : Calls Try.prog 3 #[.agg #[.string A, .string B, .bool rtl], .string x, .string y] w (TrueP w) := by
  by_cases g1 : 100 < A.size + B.size
  · have d1 : decide (100 < (A.size : Int) + (B.size : Int)) = true := decide_eq_true (by omega)
    clear g1
    go_enter Try.func3, Try.ntmps3
    go_wp2_with fail
    refine (awake24_any _).mono ?_
    rintro e w1 ⟨rfl, hb1⟩
    have hbx1 : w1.heap[w.heap.size]? = some (.cells #[.string A, .string B, .bool rtl] 23 (0, 0)) := (hb1.block w.heap.size (by simp)).trans (heap_alloc_new w _)
    have hB1 : Below w.heap.size w w1 := ((Below.refl _ _).alloc (Nat.le_refl _) _).trans (hb1.mono (by simp))
    have HX1 := Lib.hid hbx1
    have HB1 := Lib.hid hB1
    have c0 : w1.cell? ⟨w.heap.size, 0, none⟩ = some (.string A) := by rw [Lib.cell_of_heap hbx1]; rfl
    have c1 : w1.cell? ⟨w.heap.size, 1, none⟩ = some (.string B) := by rw [Lib.cell_of_heap hbx1]; rfl
    clear hb1 hbx1 hB1
    go_upto_region 3 with fail
    go_cut [40] (fun ov wx => ov = .bool true ∧ Below w1.heap.size w1 wx)
    case first =>
      refine wp_region_quiet (C := fun W => W.cell? ⟨w.heap.size, 0, none⟩ = some (.string A) ∧ W.cell? ⟨w.heap.size, 1, none⟩ = some (.string B) ∧ Below w1.heap.size w1 W) (by kernel_rfl) (by kernel_rfl) ⟨c0, c1, ⟨rfl, rfl, rfl, Nat.le_refl _, fun _ _ => rfl⟩⟩ ?_
      dsimp only
      repeat (first | go_big_quiet_skip | (go_big_quiet_want; go_big_quiet_op; first | go_big_quiet_on | (refine Exists.intro (Value.string A) (And.intro ?_ ?_); (focus (intro W q1 q2 q3; rw [q1]; exact ⟨rfl, rfl⟩)); go_big_quiet_on) | (refine Exists.intro (Value.string B) (And.intro ?_ ?_); (focus (intro W q1 q2 q3; rw [q2]; exact ⟨rfl, rfl⟩)); go_big_quiet_on) | (refine ⟨_, fun _ _ _ _ => rfl, ?_⟩; go_big_quiet_on)))
      refine wpQuiet_nil ?_
      intro W hW
      go_wp2_with fail
      go_meet
      exact ⟨rfl, hW.2.2⟩
    case rest =>
      obtain ⟨rfl, hbc⟩ := hcut
      have HB5 := Lib.hid hbc
      clear hbc
      go_wp2_with fail
      refine (awake24_any _).mono ?_
      rintro e w9 ⟨rfl, hb9⟩
      have HB9 := Lib.hid hb9
      clear hb9
      go_wp2
      go_ret
      exact ⟨rfl, (HB1.out.trans (HB5.out.mono HB1.out.size)).trans (HB9.out.mono (Nat.le_trans HB1.out.size HB5.out.size))⟩
  · have d1 : decide (100 < (A.size : Int) + (B.size : Int)) = false := decide_eq_false (by omega)
    by_cases g2 : 100 < x.size
    · have d2 : decide (100 < (x.size : Int)) = true := decide_eq_true (by omega)
      clear g1 g2
      go_enter Try.func3, Try.ntmps3
      go_wp2_with fail
      refine (awake24_any _).mono ?_
      rintro e w1 ⟨rfl, hb1⟩
      have hbx1 : w1.heap[w.heap.size]? = some (.cells #[.string A, .string B, .bool rtl] 23 (0, 0)) := (hb1.block w.heap.size (by simp)).trans (heap_alloc_new w _)
      have hB1 : Below w.heap.size w w1 := ((Below.refl _ _).alloc (Nat.le_refl _) _).trans (hb1.mono (by simp))
      have HX1 := Lib.hid hbx1
      have HB1 := Lib.hid hB1
      have c0 : w1.cell? ⟨w.heap.size, 0, none⟩ = some (.string A) := by rw [Lib.cell_of_heap hbx1]; rfl
      have c1 : w1.cell? ⟨w.heap.size, 1, none⟩ = some (.string B) := by rw [Lib.cell_of_heap hbx1]; rfl
      clear hb1 hbx1 hB1
      go_upto_region 3 with fail
      go_cut [40] (fun ov wx => ov = .bool true ∧ Below w1.heap.size w1 wx)
      case first =>
        refine wp_region_quiet (C := fun W => W.cell? ⟨w.heap.size, 0, none⟩ = some (.string A) ∧ W.cell? ⟨w.heap.size, 1, none⟩ = some (.string B) ∧ Below w1.heap.size w1 W) (by kernel_rfl) (by kernel_rfl) ⟨c0, c1, ⟨rfl, rfl, rfl, Nat.le_refl _, fun _ _ => rfl⟩⟩ ?_
        dsimp only
        repeat (first | go_big_quiet_skip | (go_big_quiet_want; go_big_quiet_op; first | go_big_quiet_on | (refine Exists.intro (Value.string A) (And.intro ?_ ?_); (focus (intro W q1 q2 q3; rw [q1]; exact ⟨rfl, rfl⟩)); go_big_quiet_on) | (refine Exists.intro (Value.string B) (And.intro ?_ ?_); (focus (intro W q1 q2 q3; rw [q2]; exact ⟨rfl, rfl⟩)); go_big_quiet_on) | (refine ⟨_, fun _ _ _ _ => rfl, ?_⟩; go_big_quiet_on)))
        refine wpQuiet_nil ?_
        intro W hW
        go_wp2_with fail
        go_meet
        exact ⟨rfl, hW.2.2⟩
      case rest =>
        obtain ⟨rfl, hbc⟩ := hcut
        have HB5 := Lib.hid hbc
        clear hbc
        go_wp2_with fail
        refine (awake24_any _).mono ?_
        rintro e w9 ⟨rfl, hb9⟩
        have HB9 := Lib.hid hb9
        clear hb9
        go_wp2
        go_ret
        exact ⟨rfl, (HB1.out.trans (HB5.out.mono HB1.out.size)).trans (HB9.out.mono (Nat.le_trans HB1.out.size HB5.out.size))⟩
    · have d2 : decide (100 < (x.size : Int)) = false := decide_eq_false (by omega)
      by_cases g3 : 100 < y.size
      · have d3 : decide (100 < (y.size : Int)) = true := decide_eq_true (by omega)
        clear g1 g2 g3
        go_enter Try.func3, Try.ntmps3
        go_wp2_with fail
        refine (awake24_any _).mono ?_
        rintro e w1 ⟨rfl, hb1⟩
        have hbx1 : w1.heap[w.heap.size]? = some (.cells #[.string A, .string B, .bool rtl] 23 (0, 0)) := (hb1.block w.heap.size (by simp)).trans (heap_alloc_new w _)
        have hB1 : Below w.heap.size w w1 := ((Below.refl _ _).alloc (Nat.le_refl _) _).trans (hb1.mono (by simp))
        have HX1 := Lib.hid hbx1
        have HB1 := Lib.hid hB1
        have c0 : w1.cell? ⟨w.heap.size, 0, none⟩ = some (.string A) := by rw [Lib.cell_of_heap hbx1]; rfl
        have c1 : w1.cell? ⟨w.heap.size, 1, none⟩ = some (.string B) := by rw [Lib.cell_of_heap hbx1]; rfl
        clear hb1 hbx1 hB1
        go_upto_region 3 with fail
        go_cut [40] (fun ov wx => ov = .bool true ∧ Below w1.heap.size w1 wx)
        case first =>
          refine wp_region_quiet (C := fun W => W.cell? ⟨w.heap.size, 0, none⟩ = some (.string A) ∧ W.cell? ⟨w.heap.size, 1, none⟩ = some (.string B) ∧ Below w1.heap.size w1 W) (by kernel_rfl) (by kernel_rfl) ⟨c0, c1, ⟨rfl, rfl, rfl, Nat.le_refl _, fun _ _ => rfl⟩⟩ ?_
          dsimp only
          repeat (first | go_big_quiet_skip | (go_big_quiet_want; go_big_quiet_op; first | go_big_quiet_on | (refine Exists.intro (Value.string A) (And.intro ?_ ?_); (focus (intro W q1 q2 q3; rw [q1]; exact ⟨rfl, rfl⟩)); go_big_quiet_on) | (refine Exists.intro (Value.string B) (And.intro ?_ ?_); (focus (intro W q1 q2 q3; rw [q2]; exact ⟨rfl, rfl⟩)); go_big_quiet_on) | (refine ⟨_, fun _ _ _ _ => rfl, ?_⟩; go_big_quiet_on)))
          refine wpQuiet_nil ?_
          intro W hW
          go_wp2_with fail
          go_meet
          exact ⟨rfl, hW.2.2⟩
        case rest =>
          obtain ⟨rfl, hbc⟩ := hcut
          have HB5 := Lib.hid hbc
          clear hbc
          go_wp2_with fail
          refine (awake24_any _).mono ?_
          rintro e w9 ⟨rfl, hb9⟩
          have HB9 := Lib.hid hb9
          clear hb9
          go_wp2
          go_ret
          exact ⟨rfl, (HB1.out.trans (HB5.out.mono HB1.out.size)).trans (HB9.out.mono (Nat.le_trans HB1.out.size HB5.out.size))⟩
      · have d3 : decide (100 < (y.size : Int)) = false := decide_eq_false (by omega)
        have hA1 : A.size ≤ 100 := by omega
        have hB1 : B.size ≤ 100 := by omega
        have q1 := refdepth_any A (by omega)
        have q2 := refdepth_any B (by omega)
        unfold RDepthP at q1 q2
        have l1 := mh_bound (ints (U8.els A.data.toList))
        have l2 := mh_bound (ints (U8.els B.data.toList))
        have l3 := els_short A
        have l4 := els_short B
        have hsame := iso_same (A := A) (B := B) (x := x) (y := y) (rtl := rtl)
        have w1 := around_wrapped A B x rtl hA1 hB1 (by omega)
        have w2 := around_wrapped A B y rtl hA1 hB1 (by omega)
        obtain ⟨da, hda⟩ : ∃ da, mh 0 (ints (U8.els A.data.toList)) = da := ⟨_, rfl⟩
        obtain ⟨db, hdb⟩ : ∃ db, mh 0 (ints (U8.els B.data.toList)) = db := ⟨_, rfl⟩
        rw [hda] at q1 l1 hsame w1 w2
        rw [hdb] at q2 l2 hsame w1 w2
        have la : da ≤ 100 := by omega
        have lb : db ≤ 100 := by omega
        have Q1 := Lib.hid q1
        have Q2 := Lib.hid q2
        have W1 := Lib.hid w1
        have W2 := Lib.hid w2
        have HSM := Lib.hid hsame
        clear q1 q2 l1 l2 l3 l4 hsame w1 w2 hda hdb
        by_cases g4 : 20 < da + db
        · have d4 : decide (20 < (da : Int) + (db : Int)) = true := decide_eq_true (by omega)
          clear g1 g2 g3 g4
          go_enter Try.func3, Try.ntmps3
          go_wp2_with fail
          refine (awake24_any _).mono ?_
          rintro e w1 ⟨rfl, hb1⟩
          have hbx1 : w1.heap[w.heap.size]? = some (.cells #[.string A, .string B, .bool rtl] 23 (0, 0)) := (hb1.block w.heap.size (by simp)).trans (heap_alloc_new w _)
          have hB1 : Below w.heap.size w w1 := ((Below.refl _ _).alloc (Nat.le_refl _) _).trans (hb1.mono (by simp))
          have HX1 := Lib.hid hbx1
          have HB1 := Lib.hid hB1
          have c0 : w1.cell? ⟨w.heap.size, 0, none⟩ = some (.string A) := by rw [Lib.cell_of_heap hbx1]; rfl
          have c1 : w1.cell? ⟨w.heap.size, 1, none⟩ = some (.string B) := by rw [Lib.cell_of_heap hbx1]; rfl
          clear hb1 hbx1 hB1
          go_upto_region 3 with fail
          go_cut [40] (fun ov wx => ov = .bool true ∧ Below w1.heap.size w1 wx)
          case first =>
            refine wp_region_quiet (C := fun W => W.cell? ⟨w.heap.size, 0, none⟩ = some (.string A) ∧ W.cell? ⟨w.heap.size, 1, none⟩ = some (.string B) ∧ Below w1.heap.size w1 W) (by kernel_rfl) (by kernel_rfl) ⟨c0, c1, ⟨rfl, rfl, rfl, Nat.le_refl _, fun _ _ => rfl⟩⟩ ?_
            dsimp only
            repeat (first | go_big_quiet_skip | (go_big_quiet_want; go_big_quiet_op; first | go_big_quiet_on | (refine Exists.intro (Value.string A) (And.intro ?_ ?_); (focus (intro W q1 q2 q3; rw [q1]; exact ⟨rfl, rfl⟩)); go_big_quiet_on) | (refine Exists.intro (Value.string B) (And.intro ?_ ?_); (focus (intro W q1 q2 q3; rw [q2]; exact ⟨rfl, rfl⟩)); go_big_quiet_on) | (refine Exists.intro (Value.int .i64 (da : Nat)) (And.intro ?_ ?_); (focus (intro W q1 q2 q3; exact (Q1.out W).mono (fun ex W2 hh => ⟨hh.1, ((hh.2).cell (p := ⟨w.heap.size, 0, none⟩) (World.block_lt_of_cell? W _ q1)).trans q1, ((hh.2).cell (p := ⟨w.heap.size, 1, none⟩) (World.block_lt_of_cell? W _ q2)).trans q2, q3.trans (hh.2.mono q3.size)⟩))); go_big_quiet_on) | (refine Exists.intro (Value.int .i64 (db : Nat)) (And.intro ?_ ?_); (focus (intro W q1 q2 q3; exact (Q2.out W).mono (fun ex W2 hh => ⟨hh.1, ((hh.2).cell (p := ⟨w.heap.size, 0, none⟩) (World.block_lt_of_cell? W _ q1)).trans q1, ((hh.2).cell (p := ⟨w.heap.size, 1, none⟩) (World.block_lt_of_cell? W _ q2)).trans q2, q3.trans (hh.2.mono q3.size)⟩))); go_big_quiet_on) | (refine ⟨_, fun _ _ _ _ => rfl, ?_⟩; go_big_quiet_on)))
            refine wpQuiet_nil ?_
            intro W hW
            go_wp2_with fail
            go_meet
            exact ⟨rfl, hW.2.2⟩
          case rest =>
            obtain ⟨rfl, hbc⟩ := hcut
            have HB5 := Lib.hid hbc
            clear hbc
            go_wp2_with fail
            refine (awake24_any _).mono ?_
            rintro e w9 ⟨rfl, hb9⟩
            have HB9 := Lib.hid hb9
            clear hb9
            go_wp2
            go_ret
            exact ⟨rfl, (HB1.out.trans (HB5.out.mono HB1.out.size)).trans (HB9.out.mono (Nat.le_trans HB1.out.size HB5.out.size))⟩
        · have d4 : decide (20 < (da : Int) + (db : Int)) = false := decide_eq_false (by omega)
          have hsm := HSM.out (by omega)
          have V1 := Lib.hid (W1.out (by omega))
          have V2 := Lib.hid (W2.out (by omega))
          have hln := isoOut_len A B y rtl hA1 hB1 (by omega)
          have X1 := Lib.hid (wrap_here x (by omega))
          have X2 := Lib.hid (wrap_here y (by omega))
          obtain ⟨OX, hOX⟩ : ∃ OX, isoOut A B x rtl = OX := ⟨_, rfl⟩
          obtain ⟨OY, hOY⟩ : ∃ OY, isoOut A B y rtl = OY := ⟨_, rfl⟩
          rw [hOX] at hsm V1
          rw [hOY] at hsm hln V2
          have HSM2 := Lib.hid hsm
          have HLN := Lib.hid hln
          clear g1 g2 g3 g4 HSM W1 W2 hOX hOY hsm hln
          go_enter Try.func3, Try.ntmps3
          go_wp2_with fail
          refine (awake24_any _).mono ?_
          rintro e w1 ⟨rfl, hb1⟩
          have hbx1 : w1.heap[w.heap.size]? = some (.cells #[.string A, .string B, .bool rtl] 23 (0, 0)) := (hb1.block w.heap.size (by simp)).trans (heap_alloc_new w _)
          have hB1 : Below w.heap.size w w1 := ((Below.refl _ _).alloc (Nat.le_refl _) _).trans (hb1.mono (by simp))
          have HX1 := Lib.hid hbx1
          have HB1 := Lib.hid hB1
          have c0 : w1.cell? ⟨w.heap.size, 0, none⟩ = some (.string A) := by rw [Lib.cell_of_heap hbx1]; rfl
          have c1 : w1.cell? ⟨w.heap.size, 1, none⟩ = some (.string B) := by rw [Lib.cell_of_heap hbx1]; rfl
          clear hb1 hbx1 hB1
          have c2 : w1.cell? ⟨w.heap.size, 2, none⟩ = some (.bool rtl) := by rw [Lib.cell_of_heap HX1.out]; rfl
          go_upto_region 3 with fail
          go_cut [40] (fun ov wx => ov = .bool false ∧ Below w1.heap.size w1 wx)
          case first =>
            refine wp_region_quiet (C := fun W => W.cell? ⟨w.heap.size, 0, none⟩ = some (.string A) ∧ W.cell? ⟨w.heap.size, 1, none⟩ = some (.string B) ∧ Below w1.heap.size w1 W) (by kernel_rfl) (by kernel_rfl) ⟨c0, c1, ⟨rfl, rfl, rfl, Nat.le_refl _, fun _ _ => rfl⟩⟩ ?_
            dsimp only
            repeat (first | go_big_quiet_skip | (go_big_quiet_want; go_big_quiet_op; first | go_big_quiet_on | (refine Exists.intro (Value.string A) (And.intro ?_ ?_); (focus (intro W q1 q2 q3; rw [q1]; exact ⟨rfl, rfl⟩)); go_big_quiet_on) | (refine Exists.intro (Value.string B) (And.intro ?_ ?_); (focus (intro W q1 q2 q3; rw [q2]; exact ⟨rfl, rfl⟩)); go_big_quiet_on) | (refine Exists.intro (Value.int .i64 (da : Nat)) (And.intro ?_ ?_); (focus (intro W q1 q2 q3; exact (Q1.out W).mono (fun ex W2 hh => ⟨hh.1, ((hh.2).cell (p := ⟨w.heap.size, 0, none⟩) (World.block_lt_of_cell? W _ q1)).trans q1, ((hh.2).cell (p := ⟨w.heap.size, 1, none⟩) (World.block_lt_of_cell? W _ q2)).trans q2, q3.trans (hh.2.mono q3.size)⟩))); go_big_quiet_on) | (refine Exists.intro (Value.int .i64 (db : Nat)) (And.intro ?_ ?_); (focus (intro W q1 q2 q3; exact (Q2.out W).mono (fun ex W2 hh => ⟨hh.1, ((hh.2).cell (p := ⟨w.heap.size, 0, none⟩) (World.block_lt_of_cell? W _ q1)).trans q1, ((hh.2).cell (p := ⟨w.heap.size, 1, none⟩) (World.block_lt_of_cell? W _ q2)).trans q2, q3.trans (hh.2.mono q3.size)⟩))); go_big_quiet_on) | (refine ⟨_, fun _ _ _ _ => rfl, ?_⟩; go_big_quiet_on)))
            refine wpQuiet_nil ?_
            intro W hW
            go_wp2_with fail
            go_meet
            exact ⟨rfl, hW.2.2⟩
          case rest =>
            obtain ⟨rfl, hbc⟩ := hcut
            have hw := boxS_step (g := w.heap.size) (A := A) (B := B) (rtl := rtl) (wx := w1) ⟨c0, c1, c2, Below.refl _ _⟩ hbc
            obtain ⟨e0, e1, e2, hb5⟩ := hw
            have HB5 := Lib.hid (HB1.out.trans (hb5.mono HB1.out.size))
            clear c0 c1 c2 hbc hb5
            go_upto_region 5 with fail
            go_region_held3 (fun W => W.cell? ⟨w.heap.size, 0, none⟩ = some (.string A) ∧ W.cell? ⟨w.heap.size, 1, none⟩ = some (.string B) ∧ W.cell? ⟨w.heap.size, 2, none⟩ = some (.bool rtl) ∧ Below wc.heap.size wc W) (first | assumption | exact ⟨e0, e1, e2, Below.refl _ _⟩ | exact ⟨e0, e1, e2, (Below.refl _ _).drew⟩)
              (first
                | (go_at_call 7; refine (X1.out _).mono ?_; rintro e w5 ⟨rfl, hb5⟩; have hS5 := boxS_step (by assumption) hb5)
                | (go_at_call 6; refine (V1.out _).mono ?_; rintro e w6 ⟨v6, rfl, hi6, hb6⟩; have hS6 := boxS_step hS5 hb6))
            obtain ⟨k0, k1, k2, hb6b⟩ := hS6
            have HB6 := Lib.hid (HB5.out.trans (hb6b.mono HB5.out.size))
            have HI6 := Lib.hid hi6
            have HS6 := Lib.hid (Nat.le_refl w6.heap.size)
            clear hS5 hb5 hb6 hi6 e0 e1 e2 hb6b
            go_upto_region 6 with fail
            go_region_held3 (fun W => W.cell? ⟨w.heap.size, 0, none⟩ = some (.string A) ∧ W.cell? ⟨w.heap.size, 1, none⟩ = some (.string B) ∧ W.cell? ⟨w.heap.size, 2, none⟩ = some (.bool rtl) ∧ Below w6.heap.size w6 W) (first | assumption | exact ⟨k0, k1, k2, Below.refl _ _⟩ | exact ⟨k0, k1, k2, (Below.refl _ _).drew⟩)
              (first
                | (go_at_call 7; refine (X2.out _).mono ?_; rintro e w7 ⟨rfl, hb7⟩; have hS7 := boxS_step (by assumption) hb7)
                | (go_at_call 6; refine (V2.out _).mono ?_; rintro e w8 ⟨v8, rfl, hi8, hb8⟩; have hS8 := boxS_step hS7 hb8))
            obtain ⟨_, _, _, hb8b⟩ := hS8
            have HB8 := Lib.hid (HB6.out.trans (hb8b.mono HB6.out.size))
            have hi68 := HI6.out.below hb8b
            have hsm := same_any v6 v8 OX OY _ _ w8 hi68 hi8 (by have := HLN.out; omega)
            unfold SameP at hsm
            rw [decide_eq_true HSM2.out] at hsm
            have HSA := Lib.hid hsm
            clear hS7 hb7 hb8 hi8 hb8b hi68 hsm k0 k1 k2
            go_wp2_with fail
            refine HSA.out.mono ?_
            rintro e w9 ⟨rfl, hb9⟩
            have HB9 := Lib.hid (HB8.out.trans (hb9.mono HB8.out.size))
            clear hb9
            go_wp2
            go_ret
            exact ⟨rfl, HB9.out⟩
end Go.Proofs.Ytgefbagojghmeab
