/-
  calquelaw23.around: the levels of the text around an isolate, and the order of its elements.
-/
import Derived.Test.YtgefbagojghmeaaIso0
import Derived.Test.YtgefbagojghmeaaU8W14
namespace Go.Proofs.Ytgefbagojghmeaa
open Go.RowKit

def AroundP (xs : List Int) (rtl : Bool) (n k : Nat) (w : World) (e : Ending) (w' : World) : Prop :=
  ∃ v, e = .returned (.tuple #[v, .bool true]) ∧ IsInts w' w'.heap.size v (aroundL (lev xs (eOf rtl)) n k) ∧ Below w.heap.size w w'

set_option maxRecDepth 100000 in
set_option maxHeartbeats 8000000 in
theorem around_any (A B O X : ByteArray) (kd : Nat) (rtl : Bool) (hA : A.size ≤ 100) (hB : B.size ≤ 100) (hO : O.size ≤ 3) (hX : X.size ≤ 100) (xs : List Int) (hxs : ints (U8.els (A ++ O ++ X ++ ⟨#[226, 129, 169]⟩ ++ B).data.toList) = xs) (hmh : mh 0 xs ≤ 30) (hxl : xs.length ≤ 400) (n k : Nat) (hn : (ints (U8.els A.data.toList)).length + 1 = n) (hk : (ints (U8.els X.data.toList)).length = k) (hnk : n + k < xs.length) (w : World) :
    Calls Try.prog 27 #[.agg #[.string A, .string B, .int .u8 kd, .bool rtl], .string O, .string X] w (AroundP xs rtl n k w) := by

  have z1 : (A ++ O).size ≤ 103 := by rw [ByteArray.size_append]; omega
  have z2 : (A ++ O ++ X).size ≤ 203 := by rw [ByteArray.size_append]; omega
  have z3 : (A ++ O ++ X ++ ⟨#[226, 129, 169]⟩).size ≤ 206 := by rw [ByteArray.size_append]; (show (A ++ O ++ X).size + 3 ≤ 206); omega
  have z4 : (A ++ O ++ X ++ ⟨#[226, 129, 169]⟩ ++ B).size ≤ 306 := by rw [ByteArray.size_append]; omega
  have h1 := levelsO_any (A ++ O ++ X ++ ⟨#[226, 129, 169]⟩ ++ B) rtl (by omega) xs hxs hxl hmh
  have h2 := refdecode_any A (by omega)
  have h3 := refdecode_any X (by omega)
  unfold DecP at h2 h3
  have hok := lev_fine (rtl := rtl) hmh
  have hll := lev_len xs (eOf rtl)
  have hol := order_len hok
  have hlt := order_lt hok
  unfold AroundP aroundL
  obtain ⟨L, hL⟩ : ∃ L, lev xs (eOf rtl) = L := ⟨_, rfl⟩
  rw [hL] at hll hol hlt
  simp only [hL] at h1
  rw [hL]
  have h4 := fun v B W (q : IsInts W B v L) (qB : B ≤ W.heap.size) => order_any v L B W q qB (by omega)
  obtain ⟨Q, hQ⟩ : ∃ Q, order L = Q := ⟨_, rfl⟩
  rw [hQ] at hol hlt
  simp only [hQ] at h4
  rw [hQ]
  obtain ⟨m, hm⟩ : ∃ m, m = xs.length := ⟨_, rfl⟩
  obtain ⟨q, hq⟩ : ∃ q, n + k = q := ⟨_, rfl⟩
  obtain ⟨a0, ha0⟩ : ∃ a0, (ints (U8.els A.data.toList)).length = a0 := ⟨_, rfl⟩
  rw [ha0] at hn
  have hn1 : (a0 : Int) + 1 = (n : Int) := by omega
  have hnq : (n : Int) + (k : Int) = (q : Int) := by omega
  rw [← hm] at hll hnk hxl
  simp only [← hm] at h1
  rw [hll] at hol hlt
  have H1 := Lib.hid h1
  have H2 := Lib.hid h2
  have H3 := Lib.hid h3
  have H4 := Lib.hid h4
  have HLL := Lib.hid hll
  have HOL := Lib.hid hol
  have HLT := Lib.hid hlt
  have HNA := Lib.hid ha0
  have HNI := Lib.hid hn
  have HQK := Lib.hid hq
  have hqm : (q : Int) < (m : Int) := by omega
  have hnm : (n : Int) ≤ (m : Int) := by omega
  have HKX := Lib.hid hk
  clear h1 h2 h3 h4 hll hol hlt hok hmh hxs hL hQ hm hn hk ha0 hq
  go_enter Try.func27, Try.ntmps27
  go_wp2_with fail
  refine (H1.out _).mono ?_
  rintro e w1 ⟨v1, rfl, hi1, hb1⟩
  have hbx1 : w1.heap[w.heap.size]? = some (.cells #[.string A, .string B, .int .u8 kd, .bool rtl] 37 (0, 0)) := (hb1.block w.heap.size (by simp)).trans (heap_alloc_new w _)
  have hB1 : Below w.heap.size w w1 := ((Below.refl _ _).alloc (Nat.le_refl _) _).trans (hb1.mono (by simp))
  have HX1 := Lib.hid hbx1
  have HB1 := Lib.hid hB1
  have HO1 := Lib.hid hi1
  have hi1' : w1.ownsRow (w.alloc (.cells #[.string A, .string B, .int .u8 kd, .bool rtl] 37 (0, 0))).heap.size 3 1 v1 L.length (L.map (Value.int .i64)) := by rw [HLL.out]; exact hi1
  have HI1 := Lib.hid (IsInts.of_own hi1')
  clear hi1'
  have HS1 := Lib.hid hb1.size
  clear hi1 hb1 hB1 hbx1
  go_wp2_with fail
  refine (H4.out _ _ _ HI1.out (Nat.le_refl _)).mono ?_
  rintro e w2 ⟨v2, rfl, hi2, hb2⟩
  have hlt1 := (Array.getElem?_eq_some_iff.1 HX1.out).1
  have hbx2 := (hb2.block w.heap.size hlt1).trans HX1.out
  have HX2 := Lib.hid hbx2
  have HO12 := Lib.hid (own_below HO1.out hb2)
  have HS12 := Lib.hid hb2.size
  have HI2 := Lib.hid hi2
  have HB2 := Lib.hid (HB1.out.trans (hb2.mono HB1.out.size))
  have c0 : w2.cell? ⟨w.heap.size, 0, none⟩ = some (.string A) := by rw [Lib.cell_of_heap HX2.out]; rfl
  clear hi2 hb2 hbx2 hlt1
  go_wp2_with fail
  refine (H2.out _).mono ?_
  rintro e w3 ⟨v3, rfl, ho3, hb3⟩
  obtain ⟨ao3, ca3, rfl, _⟩ := IsInts.of_own ho3
  have HO13 := Lib.hid (own_below HO12.out hb3)
  have HI23 := Lib.hid (HI2.out.below hb3)
  have HS23 := Lib.hid hb3.size
  have HB3 := Lib.hid (HB2.out.trans (hb3.mono HB2.out.size))
  rw [HNA.out]
  clear ho3 hb3 c0
  go_wp2_with fail
  refine (H3.out _).mono ?_
  rintro e w4 ⟨v4, rfl, ho4, hb4⟩
  obtain ⟨ao4, ca4, rfl, _⟩ := IsInts.of_own ho4
  have ho14 := own_below HO13.out hb4
  have hi24 := HI23.out.below (hb4.mono HS23.out)
  have HB4 := Lib.hid (HB3.out.trans (hb4.mono HB3.out.size))
  have HS14 := Lib.hid (Nat.le_trans HS12.out (Nat.le_trans HS23.out hb4.size))
  have HS24 := Lib.hid (Nat.le_trans HS23.out hb4.size)
  obtain ⟨ao2, ca2, rfl, hc2⟩ := hi24
  rw [natI_size, HOL.out] at hc2
  rw [natI_size, HOL.out]
  rw [HKX.out]
  have hm0 : 0 < m := by omega
  obtain ⟨ao1, ca1, g1, rfl, hcap, hao⟩ : ∃ ao cap g, v1 = .slice ao m cap ∧ m ≤ cap ∧ ao = some ⟨g, 0, none⟩ := by
    rcases ho14.2 with ⟨_, h0⟩ | ⟨g, cap, cur, q1, q2, q3, q4, q5⟩
    · omega
    · exact ⟨_, cap, g, q1, q4, rfl⟩
  have hcl1 : ∀ j, j < m → w4.cell? ⟨g1, j, none⟩ = some (.int .i64 (L.getD j 0)) := fun j hj => by rw [hao] at ho14; exact row_cell ho14 j _ (by simp [List.getD, HLL.out, hj])
  have HAO := Lib.hid hao
  have HCAP := Lib.hid hcap
  have HCL1 := Lib.hid hcl1
  have HC2 := Lib.hid hc2
  clear ho4 hb4 hc2 hcl1 ho14 hao hcap
  go_wp2
  obtain rfl := HAO.out
  have hcap' : (m : Int) ≤ (ca1 : Int) := by have := HCAP.out; omega
  have j0 : (0 : Int) ≤ (n : Int) := by omega
  have j1 : (0 : Int) ≤ (q : Int) := by omega
  have j2 : (n : Int) ≤ (ca1 : Int) := by omega
  have j3 : (q : Int) ≤ (m : Int) := by omega
  have j4 : IntKind.i64.wrap (q : Int) = (q : Int) := by rw [IntKind.wrap_i64]; omega
  have j8 : ¬ ca1 = q := by omega
  have j9 : (q : Int) ≤ (ca1 : Int) := by omega
  have hcb : ∀ W, Below w4.heap.size w4 W → ∀ j, j < m → W.cell? ⟨g1, j, none⟩ = some (.int .i64 (L.getD j 0)) := fun W hW j hj => (hW.cell (p := ⟨g1, j, none⟩) (World.block_lt_of_cell? w4 _ (HCL1.out j hj))).trans (HCL1.out j hj)
  have HCB := Lib.hid hcb
  clear hcb
  obtain ⟨v5, w5, r1, ho5, hg5⟩ := app_ints (w := (w4.alloc (.cells #[] 3)).drew) (base := w4.heap.size) (n := 0) (m := n) (c := ca1) (v := .slice (some ⟨w4.heap.size, 0, none⟩) 0 0) (xs := []) (ad := ⟨g1, 0, none⟩) (ys := L.take n) (World.ownsRow_lit w4 #[] 0 (Nat.le_refl _) (by decide) rfl) (by rw [List.length_take]; have := HLL.out; omega) (cells_take (m := m) (HCB.out _ ((Below.refl w4.heap.size w4).alloc (Nat.le_refl _) _).drew) (by omega)) (by omega) (by simp)
  have hS5 : Below w4.heap.size w4 w5 := ((Below.refl w4.heap.size w4).alloc (Nat.le_refl _) _).drew.grown hg5 (by simp) (fun j e => by cases e; exact Nat.le_refl _)
  obtain ⟨v6, w6, r2, ho6, hg6⟩ := app_ints (w := w5) (base := w4.heap.size) (n := 0 + n) (m := m - q) (c := ca1 - q) (v := v5) (ad := ⟨g1, q, none⟩) (ys := L.drop q) ho5 (by rw [List.length_drop, HLL.out]) (cells_drop (HCB.out _ hS5)) (by omega) hS5.size
  have hS6 : Below w4.heap.size w4 w6 := hS5.grown hg6 hS5.size (fun j e => (ho5.lt j e).1)
  go_region_held3 (fun w' => Below w4.heap.size w4 w') (first | assumption | exact Below.refl _ _ | exact (Below.refl _ _).drew | exact (Below.refl _ _).alloc (Nat.le_refl _) _ | exact ((Below.refl _ _).alloc (Nat.le_refl _) _).drew | exact ((Below.refl _ _).drew).alloc (Nat.le_refl _) _)
    (first
      | (refine step_append_runI (R := fun v' w' => v5 = v' ∧ w5 = w') (by rfl) _ _ _ (by rfl) _ _ (by rfl) (by rfl) ⟨v5, w5, r1, rfl, rfl⟩ ?_; rintro v7 w7 ⟨e7, f7⟩; subst e7 f7)
      | (refine step_append_runI (R := fun v' w' => v6 = v' ∧ w6 = w') (by rfl) _ _ _ (by rfl) _ _ (by rfl) (by rfl) ⟨v6, w6, r2, rfl, rfl⟩ ?_; rintro v7 w7 ⟨e7, f7⟩; subst e7 f7))
  have hacc : w6.ownsRow w4.heap.size 3 1 v6 (accL L n k Q 0).length ((accL L n k Q 0).map (Value.int .i64)) := by
    have e1 : accL L n k Q 0 = L.take n ++ L.drop q := by
      unfold accL
      rw [HQK.out]
      simp [natI]
    have e2 : (accL L n k Q 0).length = 0 + n + (m - q) := by
      rw [e1, List.length_append, List.length_take, List.length_drop, HLL.out]
      omega
    rw [e2, e1, List.map_append]
    exact ho6
  have hel : ∀ W, Below w4.heap.size w4 W → ∀ c, c < m → ∃ b o, ao2 = some ⟨b, o, none⟩ ∧ W.cell? ⟨b, o + c, none⟩ = some (.int .i64 (Q.getD c 0 : Nat)) := by
    intro W hW c hc
    obtain ⟨b, o, hb, hbB, hcl⟩ := HC2.out hm0
    have := hcl c hc
    rw [natI_get (by have := HOL.out; omega)] at this
    exact ⟨b, o, hb, (hW.cell (p := ⟨b, o + c, none⟩) (Nat.lt_of_lt_of_le hbB HS24.out)).trans this⟩
  have hxm : ∀ c, c < m → Q.getD c 0 < m := by
    intro c hc
    have hc' : c < Q.length := by have := HOL.out; omega
    have e : Q.getD c 0 = Q[c] := by simp [List.getD, hc']
    rw [e]
    exact HLT.out _ (List.getElem_mem _)
  have HEL := Lib.hid hel
  have HXM := Lib.hid hxm
  have HAC := Lib.hid hacc
  have HS6 := Lib.hid hS6
  obtain ⟨i9, hi9, hz0, hz1, hz2⟩ := info_parts Try.infoInt
  clear hel hxm hacc hS6 hS5 r1 r2 ho5 ho6 hg5 hg6 j8 j9 j4 j3 j2
  go_wp2
  go_loopw [14, 16, 74] (fun ov _ cv wr => ∃ c : Nat, c ≤ m ∧ cv = .int .i64 c ∧ wr.ownsRow w4.heap.size 3 1 ov (accL L n k Q c).length ((accL L n k Q c).map (Value.int .i64)) ∧ Below w4.heap.size w4 wr) (fun _ _ cv _ => m - (intOf cv).toNat)
  case atStart => exact ⟨0, Nat.zero_le _, rfl, HAC.out, HS6.out⟩
  case round =>
    obtain ⟨c, hc, rfl, hown, hb⟩ := hrel
    have c0 : (0 : Int) ≤ (c : Int) := by omega
    by_cases hcm : c < m
    · have c1 : (c : Int) < (m : Int) := by omega
      obtain ⟨b2, o2, rfl, cl2⟩ := HEL.out wr hb c hcm
      have hxm := HXM.out c hcm
      have hcq : c < Q.length := by have := HOL.out; omega
      have hal := acc_len (L := L) (n := n) (k := k) (Q := Q) (c := c)
      rw [HLL.out] at hal
      have hsn := fun (h : skipI n k (Q.getD c 0) = none) => acc_none (L := L) hcq h
      have hss := fun y (h : skipI n k (Q.getD c 0) = some y) => acc_some (L := L) hcq h
      obtain ⟨x, hx⟩ : ∃ x, Q.getD c 0 = x := ⟨_, rfl⟩
      rw [hx] at cl2 hxm
      simp only [hx] at hsn hss
      obtain ⟨R, hR⟩ : ∃ R, accL L n k Q c = R := ⟨_, rfl⟩
      rw [hR] at hown hal
      simp only [hR] at hsn hss
      have x0 : (0 : Int) ≤ (x : Int) := by omega
      have HO := Lib.hid hown
      have HBW := Lib.hid hb
      have hTs := hb.size
      clear hx hR hb
      by_cases hxn : x < n
      · have hs2 := hss x (by unfold skipI; rw [if_pos hxn])
        have xn : (x : Int) < (n : Int) := by omega
        have HS2 := Lib.hid hs2
        clear hsn hss hs2
        go_wp2_with (at_builtin; refine wpList_append_own _ rfl _ _ 24 rfl w4.heap.size 3 i9 (.int .i64 0) 1 8 Try.underlying24 hi9 hz0 hz1 hz2 rfl (by decide) _ _ _ rfl (hown.alloc _) ⟨wr.heap.size, 0, none⟩ 1 1 [.int .i64 x] rfl rfl (cell_one_new _ _ _) (by intro u hu; simp at hu; subst hu; rfl) (by unfold maxLen; omega) (by omega) (by simp; omega) ?_; intro v' w9 hE2 hg2 hg3)
        have hb9 : Below w4.heap.size w4 w9 := (HBW.out.alloc hTs _).grown hg2 (by simp; omega) (fun j e => (HO.out.lt j e).1)
        have HE9 := Lib.hid hE2
        have HB9 := Lib.hid hb9
        clear hE2 hg2 hg3 hb9 hown
        go_wp2
        go_roundw
        case rel => exact ⟨c + 1, by omega, by go_num, by rw [HS2.out, List.map_append, List.length_append]; exact HE9.out, HB9.out⟩
        case measure => simp [intOf] <;> omega
      · have xn : (n : Int) ≤ (x : Int) := by omega
        by_cases hxq : q ≤ x
        · obtain ⟨y, hy⟩ : ∃ y, x = y + k := ⟨x - k, by have := HQK.out; omega⟩
          have hs2 := hss y (by unfold skipI; rw [if_neg hxn, if_pos (by have := HQK.out; omega)]; congr 1; omega)
          have xq : (q : Int) ≤ (x : Int) := by omega
          have xy : (x : Int) - (k : Int) = (y : Int) := by omega
          have HS2 := Lib.hid hs2
          clear hsn hss hs2 hy
          go_wp2_with (at_builtin; refine wpList_append_own _ rfl _ _ 24 rfl w4.heap.size 3 i9 (.int .i64 0) 1 8 Try.underlying24 hi9 hz0 hz1 hz2 rfl (by decide) _ _ _ rfl (hown.alloc _) ⟨wr.heap.size, 0, none⟩ 1 1 [.int .i64 y] rfl rfl (cell_one_new _ _ _) (by intro u hu; simp at hu; subst hu; rfl) (by unfold maxLen; omega) (by omega) (by simp; omega) ?_; intro v' w9 hE2 hg2 hg3)
          have hb9 : Below w4.heap.size w4 w9 := (HBW.out.alloc hTs _).grown hg2 (by simp; omega) (fun j e => (HO.out.lt j e).1)
          have HE9 := Lib.hid hE2
          have HB9 := Lib.hid hb9
          clear hE2 hg2 hg3 hb9 hown
          go_wp2
          go_roundw
          case rel => exact ⟨c + 1, by omega, by go_num, by rw [HS2.out, List.map_append, List.length_append]; exact HE9.out, HB9.out⟩
          case measure => simp [intOf] <;> omega
        · have hs2 := hsn (by unfold skipI; rw [if_neg hxn, if_neg (by have := HQK.out; omega)])
          have xq : (x : Int) < (q : Int) := by omega
          have HS2 := Lib.hid hs2
          clear hsn hss hs2 hown
          go_wp2
          go_roundw
          case rel => exact ⟨c + 1, by omega, by go_num, by rw [HS2.out]; exact HO.out, HBW.out⟩
          case measure => simp [intOf] <;> omega
    · have hcm2 : c = m := by omega
      have c1 : (m : Int) ≤ (c : Int) := by omega
      have hR : accL L n k Q c = L.take n ++ (L.drop (n + k) ++ natI (Q.filterMap (skipI n k))) := by
        unfold accL
        rw [show Q.take c = Q from List.take_of_length_le (by have := HOL.out; omega)]
      have hii := IsInts.of_own hown
      rw [hR] at hii
      have HII := Lib.hid hii
      have HBW := Lib.hid hb
      clear hii hown hb hR
      go_wp2
      go_ret2
      exact ⟨_, rfl, HII.out, HB4.out.trans (HBW.out.mono HB4.out.size)⟩

end Go.Proofs.Ytgefbagojghmeaa