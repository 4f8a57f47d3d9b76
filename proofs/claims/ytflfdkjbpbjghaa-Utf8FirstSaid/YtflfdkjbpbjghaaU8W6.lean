/-
  calqueref01.At: the position with an offset, or the error of the range.
-/
import Derived.Test.YtflfdkjbpbjghaaU8W3
import Derived.Test.YtflfdkjbpbjghaaU8W5
namespace Go.Proofs.Ytflfdkjbpbjghaa
open Go.RowKit

theorem tail_list (s : ByteArray) (n : Nat) : (s.extract n s.size).data.toList = s.data.toList.drop n := by
  rw [Lib.extract_data, List.take_of_length_le (by rw [List.length_drop, U8.size_len]; exact Nat.le_refl _)]
theorem next_at (s : ByteArray) (q c z : Nat) (hs : s.size ≤ 4611686018427387904) (hq : q < s.size) (hd : Lib.decodeL (s.data.toList.drop q) = (c, z)) (w : World) :
    Calls Try.prog 20 #[.string (s.extract q s.size)] w fun e w' => e = .returned (.tuple #[.int .i64 c, .int .i64 z]) ∧ Below w.heap.size w w' := by
  refine (next_any (s.extract q s.size) w (by rw [Lib.tail_size]; omega) (by rw [Lib.tail_size]; omega)).mono ?_
  rintro e w' ⟨he, hb⟩
  rw [tail_list, hd] at he
  exact ⟨he, hb⟩

/-- At a position that is reached: what is known of the walk's state. -/
structure Here (s : ByteArray) (off : Int) (pre : List U8.Pos) (qo ql qc : Nat) : Prop where
  le : qo ≤ s.size
  eq : U8.poss s.data.toList = pre ++ U8.possFrom (qo, ql, qc) (s.data.toList.drop qo)
  no : ∀ y ∈ pre, ((y.1 : Int) == off) = false
theorem Here.ok {s : ByteArray} {off : Int} {pre : List U8.Pos} {qo ql qc : Nat} (h : Here s off pre qo ql qc) : 1 ≤ ql ∧ 1 ≤ qc ∧ ql + qc ≤ qo + 2 := by
  have hmem : (qo, ql, qc) ∈ U8.poss s.data.toList := by
    rw [h.eq]
    refine List.mem_append.2 (.inr ?_)
    by_cases hne : s.data.toList.drop qo = []
    · rw [hne]; simp [U8.possFrom_nil]
    · rw [U8.possFrom_step _ _ hne]; simp
  exact (U8.poss_ok _ _ hmem).1
theorem Here.found {s : ByteArray} {off : Int} {pre : List U8.Pos} {qo ql qc : Nat} (h : Here s off pre qo ql qc) (hx : ((qo : Int) == off) = true) : U8.atS s.data.toList off = some (qo, ql, qc) := by
  by_cases hne : s.data.toList.drop qo = []
  · have := h.eq
    rw [hne, U8.possFrom_nil] at this
    exact U8.find_pre this h.no hx
  · have := h.eq
    rw [U8.possFrom_step _ _ hne] at this
    exact U8.find_pre this h.no hx
theorem Here.none_ {s : ByteArray} {off : Int} {pre : List U8.Pos} {qo ql qc : Nat} (h : Here s off pre qo ql qc) (hq : qo = s.size) (hx : ((qo : Int) == off) = false) : U8.atS s.data.toList off = none := by
  have := U8.poss_end h.eq (by dsimp only; rw [U8.size_len]; exact hq)
  refine U8.find_none fun y hy => ?_
  rw [this] at hy
  rcases List.mem_append.1 hy with hy | hy
  · exact h.no y hy
  · rw [List.mem_singleton.1 hy]; exact hx
theorem Here.step {s : ByteArray} {off : Int} {pre : List U8.Pos} {qo ql qc c z : Nat} (h : Here s off pre qo ql qc) (hq : qo < s.size) (hx : ((qo : Int) == off) = false) (hd : Lib.decodeL (s.data.toList.drop qo) = (c, z)) :
    1 ≤ z ∧ qo + z ≤ s.size ∧ c ≤ 1114111 ∧ Here s off (pre ++ [(qo, ql, qc)]) (qo + z) (if c = 10 then ql + 1 else ql) (if c = 10 then 1 else qc + 1) := by
  have hlen : qo < s.data.toList.length := by rw [U8.size_len]; exact hq
  have h1 := Lib.decodeL_width (s.data.toList.drop qo)
  have h2 := U8.width_le hlen
  have h3 := Lib.decodeL_rune (s.data.toList.drop qo)
  have h4 := U8.poss_round h.eq hlen
  rw [hd] at h1 h2 h3
  dsimp only at h1 h2 h3 h4
  rw [U8.size_len] at h2
  rw [hd] at h4
  refine ⟨h1, h2, h3, h2, ?_, fun y hy => ?_⟩
  · have e : U8.stepP (qo, ql, qc) (c, z) = (qo + z, if c = 10 then ql + 1 else ql, if c = 10 then 1 else qc + 1) := by
      unfold U8.stepP
      by_cases hc : c = 10 <;> simp [hc]
    rw [e] at h4
    exact h4
  · rcases List.mem_append.1 hy with hy | hy
    · exact h.no y hy
    · rw [List.mem_singleton.1 hy]; exact hx
theorem Here.start (s : ByteArray) (off : Int) : Here s off [] 0 1 1 := ⟨Nat.zero_le _, by rw [List.drop_zero]; rfl, fun y hy => by simp at hy⟩

set_option maxRecDepth 100000 in
set_option maxHeartbeats 2000000 in
theorem refat_any (s : ByteArray) (hs : s.size ≤ 4611686018427387904) (off : Int) (w : World) : Calls Try.prog 9 #[.string s, .int .i64 off] w (AtP s off w) := by
  obtain ⟨B, hB⟩ : ∃ B, B = w.heap.size := ⟨_, rfl⟩
  have HB := Lib.hid hB
  clear hB
  go_enter Try.func9, Try.ntmps9
  go_wp2
  rw [← HB.out]
  go_loopw [7] (fun _ wr => ∃ (pre : List U8.Pos) (qo ql qc : Nat), wr.heap[B]? = some (.cells #[.int .i64 0, .int .i64 0, .int .i64 0] 24 (0, 0)) ∧ wr.heap[B + 1]? = some (.cells #[.int .i64 qo, .int .i64 ql, .int .i64 qc] 24 (0, 0)) ∧
      Here s off pre qo ql qc ∧ Below B w wr) (fun _ wr => s.size - (match wr.cell? ⟨B + 1, 0, none⟩ with | some v => (intOf v).toNat | none => 0))
  case atStart =>
    refine ⟨[], 0, 1, 1, ?_, ?_, Here.start _ _, ?_⟩
    · rw [HB.out]; exact (Below.heap_alloc _ _ _ (by simp)).trans (heap_alloc_new _ _)
    · rw [HB.out]; have := heap_alloc_new (w.alloc (.cells #[.int .i64 0, .int .i64 0, .int .i64 0] 24)) (.cells #[.int .i64 0, .int .i64 1, .int .i64 1] 24); rwa [World.size_alloc] at this
    · rw [HB.out]; exact ((Below.refl _ w).alloc (Nat.le_refl _) _).alloc (by simp) _
  case round =>
    obtain ⟨pre, qo, ql, qc, hP, hI, hh, hbel⟩ := hrel
    obtain ⟨ok1, ok2, ok3⟩ := hh.ok
    have hq := hh.le
    have HH := Lib.hid hh
    clear hh
    have c0 := row_cell hI 0
    have c1 := row_cell hI 1
    have c2 := row_cell hI 2
    have f0 := row_free hI 0
    have f1 := row_free hI 1
    have f2 := row_free hI 2
    have e0 := row_cell hP 0
    have e1 := row_cell hP 1
    have e2 := row_cell hP 2
    have g0 := row_free hP 0
    have g1 := row_free hP 1
    have g2 := row_free hP 2
    simp only [List.getElem?_toArray, List.getElem?_cons_zero, List.getElem?_cons_succ] at c0 c1 c2 e0 e1 e2
    have HP := Lib.hid hP
    have HI := Lib.hid hI
    clear hP hI
    have fin : ∀ (x0 x1 x2 : Nat) (W : World), W = (((wr.setCell ⟨B, 0, none⟩ (.int .i64 x0)).setCell ⟨B, 1, none⟩ (.int .i64 x1)).setCell ⟨B, 2, none⟩ (.int .i64 x2)) →
        W.cell? ⟨B, 0, none⟩ = some (.int .i64 x0) ∧ W.cell? ⟨B, 1, none⟩ = some (.int .i64 x1) ∧ W.cell? ⟨B, 2, none⟩ = some (.int .i64 x2) ∧ Below B w W := by
      rintro x0 x1 x2 W rfl
      have q2 := row_set (row_set (row_set HP.out 0 (.int .i64 x0)) 1 (.int .i64 x1)) 2 (.int .i64 x2)
      simp only [List.setIfInBounds_toArray, List.set_cons_zero, List.set_cons_succ] at q2
      have y0 := row_cell q2 0
      have y1 := row_cell q2 1
      have y2 := row_cell q2 2
      simp only [List.getElem?_toArray, List.getElem?_cons_zero, List.getElem?_cons_succ] at y0 y1 y2
      exact ⟨y0, y1, y2, ((hbel.setCell (p := ⟨B, 0, none⟩) (Nat.le_refl _) _).setCell (p := ⟨B, 1, none⟩) (Nat.le_refl _) _).setCell (p := ⟨B, 2, none⟩) (Nat.le_refl _) _⟩
    have FIN := Lib.hid fin
    clear fin
    by_cases hx : ((qo : Int) == off) = true
    · have hx' : ((qo : Int) != off) = false := by simpa using hx
      have HX := Lib.hid hx
      clear hx
      have hd := HH.out.found HX.out
      have HD := Lib.hid hd
      clear hd
      by_cases hp : qo < s.size
      all_goals
        go_wp2
        obtain ⟨y0, y1, y2, yb⟩ := FIN.out qo ql qc _ rfl
        refine bodyPost_ret (v := atV (some (qo, ql, qc))) (by simp [results, Try.results9, go_sem, y0, y1, y2, atV, posV]) rfl ?_
        unfold AtP
        rw [HD.out, ← HB.out]
        exact ⟨rfl, yb⟩
    · have hx1 : ((qo : Int) == off) = false := by simpa using hx
      have hx' : ((qo : Int) != off) = true := by simpa using hx
      have HX := Lib.hid hx1
      clear hx1 hx
      by_cases hp : qo < s.size
      · obtain ⟨⟨c, z⟩, hd⟩ : ∃ d, Lib.decodeL (s.data.toList.drop qo) = d := ⟨_, rfl⟩
        obtain ⟨z1, z2, z3, hn⟩ := HH.out.step hp HX.out hd
        have HC := Lib.hid (next_at s qo c z hs hp hd)
        have HN := Lib.hid hn
        clear hd hn
        go_wp2_with fail
        refine (HC.out _).mono ?_
        rintro e w1 ⟨rfl, hb⟩
        have hP := (hb.block B (heap_lt HP.out)).trans HP.out
        have hI := (hb.block (B + 1) (heap_lt HI.out)).trans HI.out
        have hbl := hbel.trans (hb.mono (by have := hbel.size; rw [HB.out]; exact this))
        have b0 := row_cell hI 0
        have b1 := row_cell hI 1
        have b2 := row_cell hI 2
        have d0 := row_free hI 0
        have d1 := row_free hI 1
        have d2 := row_free hI 2
        simp only [List.getElem?_toArray, List.getElem?_cons_zero, List.getElem?_cons_succ] at b0 b1 b2
        have HP2 := Lib.hid hP
        have HI2 := Lib.hid hI
        have HBL := Lib.hid hbl
        have HM := Lib.hid c0
        clear hP hI hbl hb c0 c1 c2 f0 f1 f2 e0 e1 e2 g0 g1 g2 FIN HC hbel
        by_cases h10 : c = 10
        · have t1 : ((c : Int) == 10) = true := by rw [h10]; rfl
          have HT := Lib.hid h10
          clear h10
          go_wp2
          have n1 := HN.out
          rw [if_pos HT.out, if_pos HT.out] at n1
          have q2 := row_set (row_set (row_set (row_set HI2.out 0 (.int .i64 (qo + z))) 2 (.int .i64 (qc + 1))) 1 (.int .i64 (ql + 1))) 2 (.int .i64 1)
          simp only [List.setIfInBounds_toArray, List.set_cons_zero, List.set_cons_succ] at q2
          have q0 := (Below.heap_setCell _ ⟨B + 1, 2, none⟩ (.int .i64 1) B (by simp)).trans ((Below.heap_setCell _ ⟨B + 1, 1, none⟩ (.int .i64 (ql + 1)) B (by simp)).trans ((Below.heap_setCell _ ⟨B + 1, 2, none⟩ (.int .i64 (qc + 1)) B (by simp)).trans ((Below.heap_setCell _ ⟨B + 1, 0, none⟩ (.int .i64 (qo + z)) B (by simp)).trans HP2.out)))
          have y0 := row_cell q2 0
          simp only [List.getElem?_toArray, List.getElem?_cons_zero] at y0
          refine ⟨⟨_, qo + z, ql + 1, 1, q0, q2, n1, (((HBL.out.setCell (p := ⟨B + 1, 0, none⟩) (by simp) _).setCell (p := ⟨B + 1, 2, none⟩) (by simp) _).setCell (p := ⟨B + 1, 1, none⟩) (by simp) _).setCell (p := ⟨B + 1, 2, none⟩) (by simp) _⟩, ?_⟩
          rw [HM.out, y0]
          simp [intOf]; omega
        · have t1 : ((c : Int) == 10) = false := by simp; omega
          have HT := Lib.hid h10
          clear h10
          go_wp2
          have n1 := HN.out
          rw [if_neg HT.out, if_neg HT.out] at n1
          have q2 := row_set (row_set HI2.out 0 (.int .i64 (qo + z))) 2 (.int .i64 (qc + 1))
          simp only [List.setIfInBounds_toArray, List.set_cons_zero, List.set_cons_succ] at q2
          have q0 := (Below.heap_setCell _ ⟨B + 1, 2, none⟩ (.int .i64 (qc + 1)) B (by simp)).trans ((Below.heap_setCell _ ⟨B + 1, 0, none⟩ (.int .i64 (qo + z)) B (by simp)).trans HP2.out)
          have y0 := row_cell q2 0
          simp only [List.getElem?_toArray, List.getElem?_cons_zero] at y0
          refine ⟨⟨_, qo + z, ql, qc + 1, q0, q2, n1, (HBL.out.setCell (p := ⟨B + 1, 0, none⟩) (by simp) _).setCell (p := ⟨B + 1, 2, none⟩) (by simp) _⟩, ?_⟩
          rw [HM.out, y0]
          simp [intOf]; omega
      · have hd := HH.out.none_ (by omega) HX.out
        have HD := Lib.hid hd
        clear hd
        go_wp2
        obtain ⟨y0, y1, y2, yb⟩ := FIN.out 0 0 0 _ rfl
        refine bodyPost_ret (v := atV none) (by simp only [Int.cast_ofNat_Int] at y0 y1 y2; simp [results, Try.results9, go_sem, y0, y1, y2, atV, posV]) rfl ?_
        unfold AtP
        rw [HD.out, ← HB.out]
        exact ⟨rfl, yb⟩
end Go.Proofs.Ytflfdkjbpbjghaa
