/-
  condition.greatest, permitted, proper.
-/
import Derived.Test.YtbkcmgjmhglghaaGreatDoorWf1
import Derived.Test.YtbkcmgjmhglghaaGreatDoorWa1
import Derived.StillTailTactics
namespace Go.Proofs.YtbkcmgjmhglghaaGreatDoor
open Go.RowKit

set_option maxRecDepth 100000 in
theorem indexInt_any (v : Value) (xs : List Int) (n : Int) (B : Nat) (w : World) (hv : IsInts w B v xs) (hx : xs.length ≤ 1000000) : Calls Tryz.prog 110 #[v, .int .i64 n] w fun e w' => ∃ z : Int, e = .returned (.int .i64 z) ∧ inL xs n = decide (0 ≤ z) ∧ w = w' := by
  obtain ⟨ao, cap, rfl, hc⟩ := hv
  have HC := Lib.hid hc
  clear hc
  go_enter Tryz.func110, Tryz.ntmps110
  go_wp2
  go_loopw [8] (fun iv wr => ∃ i : Nat, i ≤ xs.length ∧ iv = .int .i64 i ∧ wr = w ∧ inL xs n = inL (xs.drop i) n) (fun iv _ => xs.length - (intOf iv).toNat)
  case atStart => exact ⟨0, by simp⟩
  case round =>
    obtain ⟨i, hi, rfl, rfl, hcn⟩ := hrel
    have i0 : (0 : Int) ≤ (i : Int) := by omega
    by_cases hlt : i < xs.length
    · have i1 : (i : Int) < (xs.length : Int) := by omega
      obtain ⟨b, o, rfl, _, hcl⟩ := HC.out (by omega)
      have c0 := hcl i hlt
      rw [inL_drop hlt] at hcn
      obtain ⟨x, hx'⟩ : ∃ x, xs.getD i 0 = x := ⟨_, rfl⟩
      rw [hx'] at c0 hcn
      have HCN := Lib.hid hcn
      clear hcl hx' hcn
      by_cases he : x = n
      · subst he
        go_wp2
        go_ret
        exact ⟨_, rfl, by rw [HCN.out]; simp, rfl⟩
      · have he' : (x == n) = false := by simp [he]
        have he2 : (n == x) = false := by simp; exact fun h => he h.symm
        go_wp2
        go_roundw
        case rel => exact ⟨i + 1, by omega, by go_num, trivial, by rw [HCN.out, he', Bool.false_or]⟩
        case measure => simp [intOf] <;> omega
    · have i1 : ¬ (i : Int) < (xs.length : Int) := by omega
      have hd : xs.drop i = [] := List.drop_eq_nil_of_le (by omega)
      rw [hd, inL_nil] at hcn
      have HCN := Lib.hid hcn
      clear hcn hd
      go_wp2
      go_ret
      exact ⟨_, rfl, by rw [HCN.out]; rfl, rfl⟩
theorem containsInt_any (v : Value) (xs : List Int) (n : Int) (B : Nat) (w : World) (hv : IsInts w B v xs) (hx : xs.length ≤ 1000000) : Calls Tryz.prog 97 #[v, .int .i64 n] w fun e w' => e = .returned (.bool (inL xs n)) ∧ w = w' := by
  have hi := indexInt_any v xs n B w hv hx
  have HI := Lib.hid hi
  obtain ⟨ao, cap, rfl, _⟩ := hv
  clear hi
  go_enter Tryz.func97, Tryz.ntmps97
  go_wp2_with (go_at_call 110; refine (HI.out).mono ?_; rintro e w5 ⟨z, rfl, hz, rfl⟩; have HZ := Lib.hid hz; clear hz)
  go_ret
  exact ⟨ret_bool (by rw [HZ.out]), rfl⟩
theorem cgreatest_any (op : Int) (w : World) : Calls Tryz.prog 86 #[.int .i64 op] w fun e w' => e = .returned (.int .i64 (boundV op)) ∧ w = w' := by
  unfold boundV
  by_cases h1 : op = 3
  · subst h1
    go_enter Tryz.func86, Tryz.ntmps86
    go_wp2
    go_ret
    exact ⟨rfl, rfl⟩
  · by_cases h2 : op = 4
    · subst h2
      go_enter Tryz.func86, Tryz.ntmps86
      go_wp2
      go_ret
      exact ⟨rfl, rfl⟩
    · rw [if_neg (by omega)]
      have a1 : (op == 3) = false := by simp [h1]
      have a2 : (op == 4) = false := by simp [h2]
      clear h1 h2
      go_enter Tryz.func86, Tryz.ntmps86
      go_wp2
      go_ret
      exact ⟨rfl, rfl⟩
set_option maxRecDepth 100000 in
theorem permitted_any (op md : Int) (w : World) (h : inL (modsL op) md = true) : Calls Tryz.prog 85 #[.int .i64 op, .int .i64 md] w fun e w' => e = .returned (.bool true) ∧ Below w.heap.size w w' := by
  have hb : Below w.heap.size w (w.alloc (.cells #[.int .i64 2, .int .i64 3, .int .i64 4, .int .i64 5, .int .i64 6, .int .i64 10, .int .i64 20, .int .i64 25, .int .i64 50, .int .i64 100] 3)) := (Below.refl _ _).alloc (Nat.le_refl _) _
  have hc := containsInt_any (.slice (some ⟨w.heap.size, 0, none⟩) 10 10) [2, 3, 4, 5, 6, 10, 20, 25, 50, 100] md _ _ (IsInts.new w 3 [2, 3, 4, 5, 6, 10, 20, 25, 50, 100]) (by simp)
  have HB := Lib.hid hb
  unfold modsL at h
  by_cases h1 : op = 1 ∨ op = 2
  · rw [if_pos h1] at h
    rw [h] at hc
    have HC := Lib.hid hc
    clear h hc hb
    rcases h1 with rfl | rfl
    all_goals
      go_enter Tryz.func85, Tryz.ntmps85
      go_wp2_with (go_at_call 97; refine (HC.out).mono ?_; rintro e w5 ⟨rfl, rfl⟩)
      go_ret
      exact ⟨rfl, HB.out⟩
  · rw [if_neg h1] at h
    by_cases h2 : op = 5 ∨ op = 6
    · rw [if_pos h2] at h
      have h3 : md = 10 ∨ md = 100 := by simpa [inL] using h
      clear h hc hb h1
      rcases h2 with rfl | rfl <;> rcases h3 with rfl | rfl
      all_goals
        go_enter Tryz.func85, Tryz.ntmps85
        go_wp2
        go_ret
        exact ⟨rfl, Below.refl _ _⟩
    · rw [if_neg h2] at h
      simp [inL] at h
set_option maxRecDepth 100000 in
set_option maxHeartbeats 3200000 in
theorem cproper_any (op md : Int) (nt : Bool) (sv : Value) (sp : List Sp) (B : Nat) (w : World) (hv : IsSpans w B sv sp) (hB : B ≤ w.heap.size) (hr : relB ⟨op, md, nt, sp⟩ = true) :
    Calls Tryz.prog 65 #[.agg #[.int .i64 op, .int .i64 md, .bool nt, sv]] w fun e w' => e = .returned (.bool true) ∧ Below w.heap.size w w' := by
  have ho := relB_op hr
  have hs := relB_sp hr
  have hm := relB_md hr
  have hspan := fun s (h : s ∈ sp) => relB_span hr h
  simp only at ho hs hm hspan
  obtain ⟨ao, cap, rfl, hc⟩ := hv
  obtain ⟨n, hn⟩ : ∃ n, n = sp.length := ⟨_, rfl⟩
  rw [← hn] at hc hs
  rw [← hn]
  have hper : md ≠ 0 → ∀ W, Calls Tryz.prog 85 #[.int .i64 op, .int .i64 md] W fun e w' => e = .returned (.bool true) ∧ Below W.heap.size W w' := fun h0 W => permitted_any op md W (by
    rcases hm with h | h
    · exact absurd h h0
    · simpa [inL] using h)
  have HC := Lib.hid hc
  have HN := Lib.hid hn
  have HSP := Lib.hid hspan
  have HPER := Lib.hid hper
  have g1 : decide (op < 1) = false := decide_eq_false (by omega)
  have g2 : decide (6 < op) = false := decide_eq_false (by omega)
  have g3 : decide ((n : Int) < 1) = false := decide_eq_false (by omega)
  have g4 : decide (4 < (n : Int)) = false := decide_eq_false (by omega)
  clear hc hn hr hm hspan hper
  go_enter Tryz.func65, Tryz.ntmps65
  go_upto_region 1 with fail
  obtain ⟨w1, hw1⟩ : ∃ w1, w1 = w.alloc (.cells #[.int .i64 op, .int .i64 md, .bool nt, .slice ao n cap] 51) := ⟨_, rfl⟩
  have hbx : w1.heap[w.heap.size]? = some (.cells #[.int .i64 op, .int .i64 md, .bool nt, .slice ao n cap] 51 (0, 0)) := by rw [hw1]; exact heap_alloc_new w _
  have hb1 : Below w.heap.size w w1 := by rw [hw1]; exact (Below.refl _ _).alloc (Nat.le_refl _) _
  rw [← hw1]
  clear hw1
  obtain ⟨r0, r1, r2, r3⟩ := rel_cells hbx
  have HBX := Lib.hid hbx
  have HB1 := Lib.hid hb1
  clear hbx hb1
  have hways : md = 0 ∨ ((md != 0) = true ∧ md ≠ 0) := by
    by_cases h : md = 0
    · exact .inl h
    · exact .inr ⟨by simp [h], h⟩
  go_cut [37] (fun ov wx => ov = .bool false ∧ Below w1.heap.size w1 wx)
  case first =>
    rcases hways with rfl | ⟨m1, m2⟩
    · go_wp2
      go_meet
      exact ⟨rfl, Below.refl _ _⟩
    · go_wp2_with (go_at_call 85; refine (HPER.out m2 _).mono ?_; rintro e w5 ⟨rfl, hb5⟩
                   have h5 := (hb5.block w.heap.size (Array.getElem?_eq_some_iff.1 HBX.out).1).trans HBX.out
                   obtain ⟨y0, y1, y2, y3⟩ := rel_cells h5
                   have HB5 := Lib.hid hb5
                   clear hb5 h5)
      go_meet
      exact ⟨rfl, HB5.out⟩
  case rest =>
    obtain ⟨rfl, hbc⟩ := hcut
    have hbx2 := (hbc.block w.heap.size (Array.getElem?_eq_some_iff.1 HBX.out).1).trans HBX.out
    clear r0 r1 r2 r3
    obtain ⟨r0, r1, r2, r3⟩ := rel_cells hbx2
    have HBX2 := Lib.hid hbx2
    have HB2 := Lib.hid (HB1.out.trans (hbc.mono HB1.out.size))
    clear hbx2 hbc hways
    go_wp2
    go_loopw [41] (fun iv wr => ∃ i : Nat, i ≤ n ∧ iv = .int .i64 i ∧ Below wc.heap.size wc wr) (fun iv _ => n - (intOf iv).toNat)
    case atStart => exact ⟨0, Nat.zero_le _, rfl, Below.refl _ _⟩
    case round =>
      obtain ⟨i, hi, rfl, hb⟩ := hrel
      have HBW := Lib.hid hb
      have i0 : (0 : Int) ≤ (i : Int) := by omega
      by_cases hlt : i < n
      · have i1 : (i : Int) < (n : Int) := by omega
        have hil : i < sp.length := by have := HN.out; omega
        obtain ⟨x, hx'⟩ : ∃ x, sp[i]? = some x := ⟨_, List.getElem?_eq_getElem hil⟩
        obtain ⟨q1, q2, q3⟩ := HSP.out x (List.mem_of_getElem? hx')
        obtain ⟨b, o, rfl, hbB, hcl⟩ := HC.out (by omega)
        obtain ⟨d0, d1⟩ := hcl i x hx'
        have hbw := HB2.out.trans (hb.mono HB2.out.size)
        have e0 := (hbw.cell (p := ⟨b, o + i * 2, none⟩) (by show b < w.heap.size; omega)).trans d0
        have e1 := (hbw.cell (p := ⟨b, o + i * 2 + 1, none⟩) (by show b < w.heap.size; omega)).trans d1
        obtain ⟨x1, x2⟩ := x
        simp only at q1 q2 q3 e0 e1
        have hrl := (hb.block w.heap.size (Array.getElem?_eq_some_iff.1 HBX2.out).1).trans HBX2.out
        have p1 : decide (x1 < 0) = false := decide_eq_false (by omega)
        have p2 : decide (x2 < x1) = false := decide_eq_false (by omega)
        have p3 : decide (boundV op < x2) = false := decide_eq_false (by omega)
        obtain ⟨bv, hbv⟩ : ∃ bv, bv = boundV op := ⟨_, rfl⟩
        have hgr := fun W => cgreatest_any op W
        rw [← hbv] at hgr p3
        have HRL := Lib.hid hrl
        have HGR := Lib.hid hgr
        clear hcl d0 d1 hbw hx' hb hrl q1 q2 q3 hbv hgr r0 r1 r2 r3
        go_upto_region 6 with fail
        obtain ⟨w7, hw7⟩ : ∃ w7, w7 = wr.alloc (.cells #[.int .i64 x1, .int .i64 x2] 48) := ⟨_, rfl⟩
        have hsx : w7.heap[wr.heap.size]? = some (.cells #[.int .i64 x1, .int .i64 x2] 48 (0, 0)) := by rw [hw7]; exact heap_alloc_new wr _
        have hb7 : Below wr.heap.size wr w7 := by rw [hw7]; exact (Below.refl _ _).alloc (Nat.le_refl _) _
        rw [← hw7]
        clear hw7 e0 e1
        obtain ⟨s0, s1⟩ := span_cells hsx
        obtain ⟨t0, _, _, _⟩ := rel_cells ((hb7.block w.heap.size (Array.getElem?_eq_some_iff.1 HRL.out).1).trans HRL.out)
        have HB7 := Lib.hid (HBW.out.trans (hb7.mono HBW.out.size))
        clear hb7 hsx
        go_region_held3 (fun W => W.cell? ⟨wr.heap.size, 0, none⟩ = some (.int .i64 x1) ∧ W.cell? ⟨wr.heap.size, 1, none⟩ = some (.int .i64 x2) ∧ W.cell? ⟨w.heap.size, 0, none⟩ = some (.int .i64 op) ∧ Below wc.heap.size wc W) (first | assumption | exact ⟨s0, s1, t0, HB7.out⟩ | exact ⟨s0, s1, t0, HB7.out.drew⟩)
          (first
            | (go_at_call 86; refine (HGR.out _).mono ?_; rintro e w8 ⟨rfl, rfl⟩))
        go_wp2
        go_roundw
        case rel => exact ⟨i + 1, by omega, by go_num, by first | assumption | exact HB7.out | exact HB7.out.drew | (rename_i hS; exact hS.2.2.2)⟩
        case measure => simp [intOf] <;> omega
      · have i1 : ¬ (i : Int) < (n : Int) := by omega
        clear hb
        go_wp2
        go_ret
        exact ⟨rfl, HB2.out.trans (HBW.out.mono HB2.out.size)⟩
end Go.Proofs.YtbkcmgjmhglghaaGreatDoor
