/-
  The law Utf8Positions: Offset returns every boundary from its position, and positions increase.
-/
import Derived.Test.YtflfdkjbpbjghaaU8W12
import Derived.Test.YtflfdkjbpbjghaaU8W9
namespace Go.Proofs.Ytflfdkjbpbjghaa
open Go.RowKit

theorem at_mem (s : ByteArray) (hs : s.size ≤ 1000000) (p : U8.Pos) (hp : p ∈ U8.poss s.data.toList) (w : World) :
    Calls Try.prog 8 #[.string s, .int .i64 p.1] w fun e w' => e = .returned (.tuple #[.agg #[.int .i64 p.1, .int .i64 p.2.1, .int .i64 p.2.2], .int .i64 0]) ∧ Below w.heap.size w w' := by
  refine (at_any s (by omega) p.1 w).mono ?_
  rintro e w' ⟨he, hb⟩
  rw [U8.atS_mem _ p hp] at he
  exact ⟨he, hb⟩
theorem off_mem (s : ByteArray) (hs : s.size ≤ 1000000) (p : U8.Pos) (hp : p ∈ U8.poss s.data.toList) (w : World) :
    Calls Try.prog 10 #[.string s, .int .i64 p.2.1, .int .i64 p.2.2] w fun e w' => e = .returned (.tuple #[.int .i64 p.1, .int .i64 0]) ∧ Below w.heap.size w w' := by
  refine (off_any s (by omega) p.2.1 p.2.2 w).mono ?_
  rintro e w' ⟨he, hb⟩
  rw [U8.offS_mem _ p hp] at he
  exact ⟨he, hb⟩
/-- q is ahead of the k-th position. -/
def Ahead (L : List U8.Pos) (k : Nat) (q : U8.Pos) : Prop := ∀ p, L[k]? = some p → q.2.1 < p.2.1 ∨ (q.2.1 = p.2.1 ∧ q.2.2 < p.2.2)
theorem Ahead.start (l : List UInt8) : Ahead (U8.poss l) 0 (0, 0, 0) := by
  intro p hp
  have := (U8.poss_ok l p (List.mem_of_getElem? hp)).1.1
  exact .inl (by show 0 < _; omega)
theorem Ahead.next {l : List UInt8} {k : Nat} {p : U8.Pos} (hp : (U8.poss l)[k]? = some p) : Ahead (U8.poss l) (k + 1) p := by
  intro q hq
  have h := U8.poss_pairwise l
  obtain ⟨h1, e1⟩ := List.getElem?_eq_some_iff.1 hp
  obtain ⟨h2, e2⟩ := List.getElem?_eq_some_iff.1 hq
  have := List.pairwise_iff_getElem.1 h k (k + 1) h1 h2 (by omega)
  rw [e1, e2] at this
  exact this.2
theorem possF_len : ∀ (n : Nat) (p : U8.Pos) (l : List UInt8), (U8.possF n p l).length ≤ n + 1
  | 0, p, l => by simp [U8.possF]
  | n + 1, p, l => by unfold U8.possF; split <;> simp; exact possF_len n _ _

set_option maxRecDepth 100000 in
set_option maxHeartbeats 2000000 in
theorem law_Utf8Positions (s : ByteArray) (hs : s.size ≤ maxLen) (w : World) : Calls Try.prog 5 #[.string s] w (TrueP w) := by
  unfold maxLen at hs
  by_cases hl : 120 < s.size
  · go_enter Try.func5, Try.ntmps5
    go_wp2_with fail
    refine (awake_any _).mono ?_
    rintro e w1 ⟨rfl, hb1⟩
    have HB1 := Lib.hid hb1
    clear hb1
    go_wp2_with fail
    refine (awake_any _).mono ?_
    rintro e w2 ⟨rfl, hb2⟩
    have HB2 := Lib.hid (HB1.out.trans (hb2.mono HB1.out.size))
    clear hb2
    go_wp2
    go_ret
    exact ⟨rfl, HB2.out⟩
  · have hd0 : decide ((120 : Int) < (s.size : Int)) = false := by simp; omega
    go_enter Try.func5, Try.ntmps5
    go_wp2_with fail
    refine (awake_any _).mono ?_
    rintro e w0 ⟨rfl, hb0⟩
    have HB0 := Lib.hid hb0
    clear hb0
    go_wp2_with fail
    refine (bnds_any s (by omega) _).mono ?_
    rintro e w1 ⟨v, rfl, hown, hb1⟩
    obtain ⟨n, hn⟩ : ∃ n, n = (ints (U8.bnds s.data.toList)).length := ⟨_, rfl⟩
    have hli : n ≤ 1000 := by
      rw [hn]
      have h3 := possF_len s.data.toList.length (0, 1, 1) s.data.toList
      have : (ints (U8.bnds s.data.toList)).length = (U8.poss s.data.toList).length := by simp [ints, U8.bnds]
      rw [this]
      rw [U8.size_len] at h3
      unfold U8.poss
      rw [U8.size_len]
      omega
    obtain ⟨ao, cap, rfl, hints⟩ := IsInts.of_own hown
    rw [← hn] at hints
    rw [← hn]
    have HN := Lib.hid hn
    have HI := Lib.hid hints
    have HB1 := Lib.hid (HB0.out.trans (hb1.mono HB0.out.size))
    clear hn hints hown hb1
    go_wp2
    obtain ⟨B, hB⟩ : ∃ B, B = w1.heap.size := ⟨_, rfl⟩
    rw [← hB]
    have HB := Lib.hid hB
    clear hB
    go_loopw [5] (fun i wr => ∃ (k : Nat) (q : U8.Pos), k ≤ n ∧ i = .int .i64 k ∧ Below B w1 wr ∧ wr.heap[B]? = some (.cells #[.int .i64 q.1, .int .i64 q.2.1, .int .i64 q.2.2] 24 (0, 0)) ∧ Ahead (U8.poss s.data.toList) k q) (fun i _ => n - (intOf i).toNat)
    case atStart =>
      refine ⟨0, (0, 0, 0), Nat.zero_le _, rfl, ?_, ?_, Ahead.start _⟩
      · rw [HB.out]; exact (Below.refl _ _).alloc (Nat.le_refl _) _
      · rw [HB.out]; exact heap_alloc_new _ _
    case round =>
      obtain ⟨k, ⟨q1, q2, q3⟩, hk, rfl, hbel, hq, hah⟩ := hrel
      dsimp only at hq
      by_cases hlt : k < n
      · obtain ⟨b, o, rfl, hbw, hc⟩ := HI.out (by omega)
        obtain ⟨⟨p1, p2, p3⟩, hp1, hp2, hp3⟩ := bnds_at (l := s.data.toList) (k := k) (by rw [← HN.out]; exact hlt)
        dsimp only at hp3
        have hbw' : b < B := by rw [HB.out]; exact hbw
        have c1 := (hbel.cell (p := ⟨b, o + k, none⟩) hbw').trans (hc k hlt)
        rw [hp3] at c1
        have hord := hah _ hp2
        dsimp only at hord
        have HCa := Lib.hid (at_mem s (by omega) _ hp1)
        have HCo := Lib.hid (off_mem s (by omega) _ hp1)
        have HP2 := Lib.hid hp2
        have HBL := Lib.hid hbel
        have HQ := Lib.hid hq
        have HO := Lib.hid hord
        have k0 : (0 : Int) ≤ (k : Int) := by omega
        have k1 : (k : Int) < (n : Int) := by omega
        clear hp1 hp2 hp3 hc hbel hah hq hord
        go_wp2_with fail
        refine (HCa.out _).mono ?_
        rintro e w2 ⟨rfl, hb2⟩
        have z1 := heap_lt HQ.out
        have hb2B := HBL.out.trans (hb2.mono (by omega : B ≤ wr.heap.size))
        have c2 := (hb2.cell (p := ⟨b, o + k, none⟩) (by show b < _; omega)).trans c1
        have q2h := (hb2.block B z1).trans HQ.out
        have HB2 := Lib.hid hb2B
        have z2 := heap_lt q2h
        have HQ2 := Lib.hid q2h
        clear hb2 hb2B c1 q2h HCa
        go_wp2_with fail
        refine (HCo.out _).mono ?_
        rintro e w3 ⟨rfl, hb3⟩
        have c3 := (hb3.cell (p := ⟨b, o + k, none⟩) (by simp; omega)).trans ((World.cell?_alloc_lt w2 _ ⟨b, o + k, none⟩ (by show b < _; omega)).trans c2)
        have q3h := (hb3.block B (by simp; omega)).trans ((Below.heap_alloc w2 _ B z2).trans HQ2.out)
        have p3h := (hb3.block w2.heap.size (by simp)).trans (heap_alloc_new w2 _)
        have hb3B := (HB2.out.alloc (by omega) _).trans (hb3.mono (by simp; omega))
        have d0 := row_cell q3h 0
        have d1 := row_cell q3h 1
        have d2 := row_cell q3h 2
        have f0 := row_free q3h 0
        have f1 := row_free q3h 1
        have f2 := row_free q3h 2
        have e0 := row_cell p3h 0
        have e1 := row_cell p3h 1
        have e2 := row_cell p3h 2
        simp only [List.getElem?_toArray, List.getElem?_cons_zero, List.getElem?_cons_succ] at d0 d1 d2 e0 e1 e2
        have HQ3 := Lib.hid q3h
        have HB3 := Lib.hid hb3B
        clear hb3 c2 q3h p3h hb3B HCo
        have fin : ((w3.setCell ⟨B, 0, none⟩ (.int .i64 p1)).setCell ⟨B, 1, none⟩ (.int .i64 p2)).setCell ⟨B, 2, none⟩ (.int .i64 p3) = ((w3.setCell ⟨B, 0, none⟩ (.int .i64 p1)).setCell ⟨B, 1, none⟩ (.int .i64 p2)).setCell ⟨B, 2, none⟩ (.int .i64 p3) → ∃ (k' : Nat) (q : U8.Pos), k' ≤ n ∧ (k' : Int) = (k : Int) + 1 ∧
            Below B w1 (((w3.setCell ⟨B, 0, none⟩ (.int .i64 p1)).setCell ⟨B, 1, none⟩ (.int .i64 p2)).setCell ⟨B, 2, none⟩ (.int .i64 p3)) ∧ (((w3.setCell ⟨B, 0, none⟩ (.int .i64 p1)).setCell ⟨B, 1, none⟩ (.int .i64 p2)).setCell ⟨B, 2, none⟩ (.int .i64 p3)).heap[B]? = some (.cells #[.int .i64 q.1, .int .i64 q.2.1, .int .i64 q.2.2] 24 (0, 0)) ∧ Ahead (U8.poss s.data.toList) k' q := by
          intro _
          have y := row_set (row_set (row_set HQ3.out 0 (.int .i64 p1)) 1 (.int .i64 p2)) 2 (.int .i64 p3)
          simp only [List.setIfInBounds_toArray, List.set_cons_zero, List.set_cons_succ] at y
          exact ⟨k + 1, (p1, p2, p3), by omega, by omega, ((HB3.out.setCell (p := ⟨B, 0, none⟩) (Nat.le_refl _) _).setCell (p := ⟨B, 1, none⟩) (Nat.le_refl _) _).setCell (p := ⟨B, 2, none⟩) (Nat.le_refl _) _, y, Ahead.next HP2.out⟩
        have FIN := Lib.hid (fin rfl)
        clear fin
        by_cases he : q2 = p2
        · have g2 : q3 < p3 := by have := HO.out; omega
          have g3 : decide (p3 ≤ q3) = false := by simp; omega
          have g4 : decide (p2 < p2) = false := by simp
          subst he
          clear HO
          go_wp2
          obtain ⟨k', q, r1, r2, r3, r4, r5⟩ := FIN.out
          exact ⟨⟨k', q, r1, by rw [r2], r3, r4, r5⟩, by simp [intOf]; omega⟩
        · have g2 : q2 < p2 := by have := HO.out; omega
          have g3 : decide (p2 < q2) = false := by simp; omega
          have g4 : ((p2 : Int) == (q2 : Int)) = false := by simp; omega
          have g5 : (p2 == q2) = false := by simp; omega
          clear HO he
          go_wp2
          obtain ⟨k', q, r1, r2, r3, r4, r5⟩ := FIN.out
          exact ⟨⟨k', q, r1, by rw [r2], r3, r4, r5⟩, by simp [intOf]; omega⟩
      · have HBL := Lib.hid hbel
        clear hbel hq hah
        go_wp2
        go_ret
        exact ⟨rfl, HB1.out.trans (HBL.out.mono (by rw [HB.out]; exact HB1.out.size))⟩
end Go.Proofs.Ytflfdkjbpbjghaa
