/-
  bidi.read: the elements, for each initiator the index of its terminator, and the greatest depth.
-/
import Derived.Test.YtgefbagojghmeaaBd0
namespace Go.Proofs.Ytgefbagojghmeaa
open Go.RowKit

/-- One element more: the ends, the open initiators, the depth. -/
def rdStep (n : Nat) (x : List Int × List Nat × Nat) (c : Int) : List Int × List Nat × Nat :=
  if initB c then ((x.1 ++ [-1]).set x.1.length n, x.2.1 ++ [x.1.length], max x.2.2 (x.2.1.length + 1))
  else if termB c then (if x.2.1 = [] then (x.1 ++ [-1], x.2.1, x.2.2) else ((x.1 ++ [-1]).set (x.2.1.getLastD 0) x.1.length, x.2.1.dropLast, x.2.2))
  else (x.1 ++ [-1], x.2.1, x.2.2)
def rdRun (n : Nat) (xs : List Int) : List Int × List Nat × Nat := xs.foldl (rdStep n) ([], [], 0)
theorem rdRun_snoc (n : Nat) (xs : List Int) (c : Int) : rdRun n (xs ++ [c]) = rdStep n (rdRun n xs) c := by simp [rdRun]
theorem rdRun_more (n : Nat) {xs : List Int} {k : Nat} (hk : k < xs.length) : rdRun n (xs.take (k + 1)) = rdStep n (rdRun n (xs.take k)) (xs.getD k 0) := by
  rw [take_more hk, rdRun_snoc]
def RdOk (m : Nat) (x : List Int × List Nat × Nat) : Prop := x.1.length = m ∧ x.2.1.length ≤ m ∧ x.2.2 ≤ m ∧ ∀ o ∈ x.2.1, o < m
theorem rdStep_ok {n m : Nat} {x : List Int × List Nat × Nat} (c : Int) (h : RdOk m x) : RdOk (m + 1) (rdStep n x c) := by
  obtain ⟨h1, h2, h3, h4⟩ := h
  unfold rdStep RdOk
  split
  · refine ⟨by simp [h1], by simp; omega, by simp; omega, fun o ho => ?_⟩
    rcases List.mem_append.1 ho with h | h
    · have := h4 o h; omega
    · simp at h; omega
  · split
    · split
      · exact ⟨by simp [h1], by simp; omega, by simp; omega, fun o ho => by have := h4 o ho; omega⟩
      · exact ⟨by simp [h1], by simp; omega, by simp; omega, fun o ho => by have := h4 o (List.dropLast_subset _ ho); omega⟩
    · exact ⟨by simp [h1], by simp; omega, by simp; omega, fun o ho => by have := h4 o ho; omega⟩
theorem rdFold_ok (n : Nat) : ∀ (xs : List Int) (m : Nat) (x : List Int × List Nat × Nat), RdOk m x → RdOk (m + xs.length) (xs.foldl (rdStep n) x)
  | [], _, _, h => h
  | c :: xs, m, x, h => by
    have := rdFold_ok n xs (m + 1) (rdStep n x c) (rdStep_ok c h)
    rw [List.foldl_cons, List.length_cons, show m + (xs.length + 1) = m + 1 + xs.length by omega]
    exact this
theorem rdRun_ok (n : Nat) (xs : List Int) : RdOk xs.length (rdRun n xs) := by
  have := rdFold_ok n xs 0 ([], [], 0) ⟨rfl, Nat.le_refl _, Nat.le_refl _, fun o h => by cases h⟩
  rwa [Nat.zero_add] at this

def nats (l : List Nat) : List Value := l.map fun (i : Nat) => Value.int .i64 (i : Int)
theorem nats_append (a : List Nat) (k : Nat) : nats (a ++ [k]) = nats a ++ [.int .i64 (k : Int)] := by simp [nats]
/-- A text that was read: its elements and its ends are slices below B. -/
def IsText (w : World) (B : Nat) (v : Value) (xs : List Int) : Prop :=
  ∃ lv ev, v = .agg #[lv, ev, .int .i64 (rdRun xs.length xs).2.2] ∧ IsInts w B lv xs ∧ IsInts w B ev (rdRun xs.length xs).1
def ReadP (xs : List Int) (w : World) (e : Ending) (w' : World) : Prop := ∃ v, e = .returned v ∧ IsText w' w'.heap.size v xs ∧ Below w.heap.size w w'

set_option maxRecDepth 100000 in
set_option maxHeartbeats 1000000 in
theorem read_any (s : ByteArray) (hs : s.size ≤ 10000) (w : World) : Calls Try.prog 37 #[.string s] w (ReadP (ints (U8.els s.data.toList)) w) := by
  obtain ⟨i0, hi, hz0, hz1, hz2⟩ := info_parts Try.infoInt
  have hle := U8.els_len s.data.toList
  rw [U8.size_len] at hle
  have hli : (ints (U8.els s.data.toList)).length ≤ 10000 := by unfold ints; rw [List.length_map]; omega
  have hd := decode_any s (by omega)
  unfold DecP at hd
  obtain ⟨xs, hxs⟩ : ∃ xs, ints (U8.els s.data.toList) = xs := ⟨_, rfl⟩
  rw [hxs] at hd hli
  rw [hxs]
  obtain ⟨n, hn⟩ : ∃ n, n = xs.length := ⟨_, rfl⟩
  rw [← hn] at hli
  have HN := Lib.hid hn
  have HD := Lib.hid hd
  clear hd hn hxs hle
  go_enter Try.func37, Try.ntmps37
  go_wp2_with fail
  refine (HD.out _).mono ?_
  rintro e w1 ⟨v, rfl, ho, hb1⟩
  have hii := IsInts.of_own ho
  obtain ⟨ao, ca, rfl, ha⟩ := hii
  rw [← HN.out] at ha
  rw [← HN.out]
  have HA := Lib.hid ha
  have hlow : ∀ b o, ao = some ⟨b, o, none⟩ → w.heap.size < b := by
    intro b o e
    subst e
    have := own_from ho b rfl
    simp at this
    omega
  have HLOW := Lib.hid hlow
  have HW1 := Lib.hid hb1
  clear ho hb1 ha hlow
  obtain ⟨T, hT⟩ : ∃ T, T = w1.heap.size := ⟨_, rfl⟩
  have HT := Lib.hid hT
  clear hT
  go_wp2
  rw [← HT.out]
  go_loopw [4, 5, 6, 13] (fun ov _ _ i wr => ∃ (k : Nat) (ev : Value), k ≤ n ∧ i = .int .i64 k ∧ RdW T w1 wr (.slice ao n ca) ev k (.int .i64 (rdRun n (xs.take k)).2.2) ((rdRun n (xs.take k)).1.map (Value.int .i64)) ov (rdRun n (xs.take k)).2.1.length (nats (rdRun n (xs.take k)).2.1)) (fun _ _ _ i _ => n - (intOf i).toNat)
  case atStart => exact ⟨0, .slice none 0 0, Nat.zero_le _, rfl, by rw [HT.out]; exact heap_alloc_new w1 _, World.ownsRow_nil _ _ _ _, World.ownsRow_nil _ _ _ _, .inl rfl, by rw [HT.out]; exact (Below.refl _ _).alloc (Nat.le_refl _) _⟩
  case round =>
    obtain ⟨k, ev, hk, rfl, hR⟩ := hrel
    have hok := rdRun_ok n (xs.take k)
    rw [List.length_take, Nat.min_eq_left (by have := HN.out; omega)] at hok
    obtain ⟨⟨E, O, D⟩, hst⟩ : ∃ st, rdRun n (xs.take k) = st := ⟨_, rfl⟩
    rw [hst] at hok hR
    dsimp only at hok hR
    obtain ⟨hk1, hk2, hk3, hk4⟩ := hok
    dsimp only at hk1 hk2 hk3 hk4
    have t1 := hR.c1
    have hTl := hR.lt
    by_cases hlt : k < n
    · have hnx := rdRun_more n (xs := xs) (k := k) (by have := HN.out; omega)
      obtain ⟨b, o, rfl, hbw, hcl⟩ := HA.out (by have := HN.out; omega)
      have c1 := (hR.hbel.cell (p := ⟨b, o + k, none⟩) (by show b < T; have := HT.out; omega)).trans (hcl k (by have := HN.out; omega))
      obtain ⟨x, hx'⟩ : ∃ x, xs.getD k 0 = x := ⟨_, rfl⟩
      rw [hx'] at c1 hnx
      rw [hst] at hnx
      have k0 : (0 : Int) ≤ (k : Int) := by omega
      have k1 : (k : Int) < (n : Int) := by omega
      unfold rdStep at hnx
      dsimp only at hnx
      rw [hk1] at hnx
      clear hcl hx' hst hbw
      by_cases hxi : initB x = true
      · rw [if_pos hxi] at hnx
        have HNX := Lib.hid hnx
        have hx1 : 8294 ≤ x := by simp [initB] at hxi; omega
        have hx2 : x ≤ 8296 := by simp [initB] at hxi; omega
        clear hnx hxi
        go_wp2_with (at_builtin; first
          | (refine wpList_append_lies _ rfl _ _ 24 rfl (T + 1) 3 i0 (.int .i64 0) 1 8 Try.underlying24 hi hz0 hz1 hz2 rfl (by decide) _ _ _ rfl (hR.hE.alloc _) ⟨wr.heap.size, 0, none⟩ 1 1 [.int .i64 (-1)] rfl rfl (cell_one_new _ _ _) (by intro u hu; simp at hu; subst hu; rfl) (by decide) (by unfold maxLen; omega) (by omega) (by simp; omega) _ rfl ?_
             intro g cap w2 hE2 hg2 hg3 hg4
             have hR2 := (hR.alloc (.cells #[.int .i64 (-1)] 3)).pushE hE2 hg2 hg3
             have hT2 : w2.heap[T]? = some (.cells #[.slice (some ⟨b, o, none⟩) n ca, ev, .int .i64 D] 49 (0, 0)) := by
               rw [hg2.block T (by simp; omega) (fun e => by have := (hR.hE.lt T e.symm).1; omega)]
               exact (hR.alloc _).hT
             have d1 : w2.cell? ⟨T, 1, none⟩ = some ev := by rw [Lib.cell_of_heap hT2]; rfl
             have hs2 : (w2.setCell ⟨T, 1, none⟩ (.slice (some ⟨g, 0, none⟩) (k + 1) cap)).heap.size = w2.heap.size := by simp [World.setCell]
             have hN2 : ∀ (y : Value) j u, [y][j]? = some u → ((w2.setCell ⟨T, 1, none⟩ (.slice (some ⟨g, 0, none⟩) (k + 1) cap)).alloc (.cells #[y] 3)).cell? ((⟨w2.heap.size, 0, none⟩ : Addr).add j) = some u := by
               intro y j u hj
               rw [← hs2]
               exact cell_one_new _ _ _ j u hj
             have f1 : w2.frozen? ⟨T, 1, none⟩ = false := Lib.frozen_of_heap hT2 1)
          | (refine wpList_append_lies _ rfl _ _ 24 rfl (T + 1) 3 i0 (.int .i64 0) 1 8 Try.underlying24 hi hz0 hz1 hz2 rfl (by decide) _ _ _ rfl (hR2.hO.alloc _) ⟨w2.heap.size, 0, none⟩ 1 1 [.int .i64 k] rfl rfl (hN2 _) (by intro u hu; simp at hu; subst hu; rfl) (by decide) (by unfold maxLen; omega) (by omega) (by have := hR2.lt; simp; omega) _ rfl ?_
             intro g' cap' w3 hO3 hg3' hg4' hg5'
             have hR3 := (hR2.alloc (.cells #[.int .i64 k] 3)).pushO hO3 hg3' hg4'
             have e0 := hR3.c0
             have e1 := hR3.c1
             have e2 := hR3.c2
             have e3 := hR3.f 2
             have e4 : w3.cell? ⟨g, k, none⟩ = some (.int .i64 (-1)) := row_cell hR3.hE k _ (by simp [hk1])
             have e5 : w3.frozen? ⟨g, k, none⟩ = false := hR3.hE.frozenAt k
             have hR4 := hR3.setE k (.int .i64 n)
             have e6 := hR4.c2
             have e7 := hR4.f 2))
        go_roundw
        case rel =>
          refine ⟨k + 1, .slice (some ⟨g, 0, none⟩) (k + 1) cap, by omega, by go_num, ?_⟩
          rw [HNX.out]
          have hR5 := hR4.setT (.int .i64 (max (D : Int) ((O.length : Int) + 1)))
          have z1 : ((max D (O.length + 1) : Nat) : Int) = max (D : Int) ((O.length : Int) + 1) := by omega
          dsimp only
          rw [z1, List.map_set, List.map_append, List.length_append, nats_append]
          exact hR5
        case measure => simp [intOf]; omega
      · rw [if_neg hxi] at hnx
        obtain ⟨ao2, cap2, rfl⟩ : ∃ ao2 cap2, u4 = .slice ao2 O.length cap2 := by
          rcases hR.hO.2 with ⟨hv, h0⟩ | ⟨g, cap, cur, hv, _⟩
          · exact ⟨none, 0, by rw [hv, h0]⟩
          · exact ⟨_, _, hv⟩
        by_cases hxt : x = 8297
        · have hxt' : termB x = true := by simp [termB, hxt]
          rw [if_pos hxt'] at hnx
          subst hxt
          clear hxi hxt'
          by_cases hop : O = []
          · subst hop
            rw [if_pos rfl] at hnx
            have HNX := Lib.hid hnx
            clear hnx
            go_wp2_with (at_builtin; first
              | (refine wpList_append_lies _ rfl _ _ 24 rfl (T + 1) 3 i0 (.int .i64 0) 1 8 Try.underlying24 hi hz0 hz1 hz2 rfl (by decide) _ _ _ rfl (hR.hE.alloc _) ⟨wr.heap.size, 0, none⟩ 1 1 [.int .i64 (-1)] rfl rfl (cell_one_new _ _ _) (by intro u hu; simp at hu; subst hu; rfl) (by decide) (by unfold maxLen; omega) (by omega) (by simp; omega) _ rfl ?_
                 intro g cap w2 hE2 hg2 hg3 hg4
                 have hR2 := (hR.alloc (.cells #[.int .i64 (-1)] 3)).pushE hE2 hg2 hg3
                 have hT2 : w2.heap[T]? = some (.cells #[.slice (some ⟨b, o, none⟩) n ca, ev, .int .i64 D] 49 (0, 0)) := by
                   rw [hg2.block T (by simp; omega) (fun e => by have := (hR.hE.lt T e.symm).1; omega)]
                   exact (hR.alloc _).hT
                 have d1 : w2.cell? ⟨T, 1, none⟩ = some ev := by rw [Lib.cell_of_heap hT2]; rfl
                 have hs2 : (w2.setCell ⟨T, 1, none⟩ (.slice (some ⟨g, 0, none⟩) (k + 1) cap)).heap.size = w2.heap.size := by simp [World.setCell]
                 have hN2 : ∀ (y : Value) j u, [y][j]? = some u → ((w2.setCell ⟨T, 1, none⟩ (.slice (some ⟨g, 0, none⟩) (k + 1) cap)).alloc (.cells #[y] 3)).cell? ((⟨w2.heap.size, 0, none⟩ : Addr).add j) = some u := by
                   intro y j u hj
                   rw [← hs2]
                   exact cell_one_new _ _ _ j u hj
                 have f1 : w2.frozen? ⟨T, 1, none⟩ = false := Lib.frozen_of_heap hT2 1))
            go_roundw
            case rel =>
              refine ⟨k + 1, .slice (some ⟨g, 0, none⟩) (k + 1) cap, by omega, by go_num, ?_⟩
              rw [HNX.out]
              dsimp only
              rw [List.map_append]
              exact hR2
            case measure => simp [intOf]; omega
          · rw [if_neg hop] at hnx
            obtain ⟨ys, y, rfl⟩ : ∃ ys y, O = ys ++ [y] := ⟨_, _, (List.dropLast_concat_getLast hop).symm⟩
            rw [List.dropLast_concat, List.getLastD_concat] at hnx
            have hyk : y < k := hk4 y (by simp)
            obtain ⟨m, hm⟩ : ∃ m, m = ys.length := ⟨_, rfl⟩
            rw [List.length_append, List.length_singleton, ← hm] at hR hk2
            rw [List.length_append, List.length_singleton, ← hm]
            have hcap : m + 1 ≤ cap2 := by
              rcases hR.hO.2 with ⟨hv, _⟩ | ⟨g', cap', cur, hv, _, _, hc, _⟩
              · cases hv
              · cases hv; exact hc
            obtain ⟨go, rfl, _⟩ := own_last hR.hO (.int .i64 y) (by rw [hm]; simp [nats])
            have HNX := Lib.hid hnx
            have HM := Lib.hid hm
            have m0 : (0 : Int) ≤ (m : Int) := by omega
            have y0 : (0 : Int) ≤ (y : Int) := by omega
            have y1 : (y : Int) < (k : Int) + 1 := by omega
            clear hnx hm hop hk4
            go_wp2_with (at_builtin; first
              | (refine wpList_append_lies _ rfl _ _ 24 rfl (T + 1) 3 i0 (.int .i64 0) 1 8 Try.underlying24 hi hz0 hz1 hz2 rfl (by decide) _ _ _ rfl (hR.hE.alloc _) ⟨wr.heap.size, 0, none⟩ 1 1 [.int .i64 (-1)] rfl rfl (cell_one_new _ _ _) (by intro u hu; simp at hu; subst hu; rfl) (by decide) (by unfold maxLen; omega) (by omega) (by simp; omega) _ rfl ?_
                 intro g cap w2 hE2 hg2 hg3 hg4
                 have hR2 := (hR.alloc (.cells #[.int .i64 (-1)] 3)).pushE hE2 hg2 hg3
                 have hT2 : w2.heap[T]? = some (.cells #[.slice (some ⟨b, o, none⟩) n ca, ev, .int .i64 D] 49 (0, 0)) := by
                   rw [hg2.block T (by simp; omega) (fun e => by have := (hR.hE.lt T e.symm).1; omega)]
                   exact (hR.alloc _).hT
                 have d1 : w2.cell? ⟨T, 1, none⟩ = some ev := by rw [Lib.cell_of_heap hT2]; rfl
                 have hs2 : (w2.setCell ⟨T, 1, none⟩ (.slice (some ⟨g, 0, none⟩) (k + 1) cap)).heap.size = w2.heap.size := by simp [World.setCell]
                 have hN2 : ∀ (y : Value) j u, [y][j]? = some u → ((w2.setCell ⟨T, 1, none⟩ (.slice (some ⟨g, 0, none⟩) (k + 1) cap)).alloc (.cells #[y] 3)).cell? ((⟨w2.heap.size, 0, none⟩ : Addr).add j) = some u := by
                   intro y j u hj
                   rw [← hs2]
                   exact cell_one_new _ _ _ j u hj
                 have f1 : w2.frozen? ⟨T, 1, none⟩ = false := Lib.frozen_of_heap hT2 1
                 have e1 := hR2.c1
                 have hlo : (w2.setCell ⟨T, 1, none⟩ (.slice (some ⟨g, 0, none⟩) (k + 1) cap)).cell? ⟨go, m, none⟩ = some (.int .i64 y) := row_cell hR2.hO m _ (by rw [HM.out]; simp [nats])
                 have e4 : ∃ z, (w2.setCell ⟨T, 1, none⟩ (.slice (some ⟨g, 0, none⟩) (k + 1) cap)).cell? ⟨g, y, none⟩ = some z := ⟨_, row_cell hR2.hE y _ (List.getElem?_eq_getElem (by simp; omega))⟩
                 obtain ⟨z, e4⟩ := e4
                 have e5 : (w2.setCell ⟨T, 1, none⟩ (.slice (some ⟨g, 0, none⟩) (k + 1) cap)).frozen? ⟨g, y, none⟩ = false := hR2.hE.frozenAt y
                 have hR3 := hR2.setE y (.int .i64 k)))
            go_region
            all_goals
              go_wp2
              go_roundw
              case rel =>
                refine ⟨k + 1, .slice (some ⟨g, 0, none⟩) (k + 1) cap, by omega, by go_num, ?_⟩
                rw [HNX.out]
                dsimp only
                rw [List.map_set, List.map_append, ← HM.out]
                have hp := hR3.popO
                rw [nats_append, List.dropLast_concat] at hp
                exact ⟨hp.hT, hp.hE, hp.hO, hp.hne, hp.hbel.drew⟩
              case measure => simp [intOf]; omega
        · have hxt' : ¬ termB x = true := by simp [termB, hxt]
          rw [if_neg hxt'] at hnx
          have HNX := Lib.hid hnx
          clear hnx hxt'
          by_cases hx1 : 8294 ≤ x
          · have hx2 : 8296 < x := by simp [initB] at hxi; omega
            clear hxi
            go_wp2_with (at_builtin; first
              | (refine wpList_append_lies _ rfl _ _ 24 rfl (T + 1) 3 i0 (.int .i64 0) 1 8 Try.underlying24 hi hz0 hz1 hz2 rfl (by decide) _ _ _ rfl (hR.hE.alloc _) ⟨wr.heap.size, 0, none⟩ 1 1 [.int .i64 (-1)] rfl rfl (cell_one_new _ _ _) (by intro u hu; simp at hu; subst hu; rfl) (by decide) (by unfold maxLen; omega) (by omega) (by simp; omega) _ rfl ?_
                 intro g cap w2 hE2 hg2 hg3 hg4
                 have hR2 := (hR.alloc (.cells #[.int .i64 (-1)] 3)).pushE hE2 hg2 hg3
                 have hT2 : w2.heap[T]? = some (.cells #[.slice (some ⟨b, o, none⟩) n ca, ev, .int .i64 D] 49 (0, 0)) := by
                   rw [hg2.block T (by simp; omega) (fun e => by have := (hR.hE.lt T e.symm).1; omega)]
                   exact (hR.alloc _).hT
                 have d1 : w2.cell? ⟨T, 1, none⟩ = some ev := by rw [Lib.cell_of_heap hT2]; rfl
                 have hs2 : (w2.setCell ⟨T, 1, none⟩ (.slice (some ⟨g, 0, none⟩) (k + 1) cap)).heap.size = w2.heap.size := by simp [World.setCell]
                 have hN2 : ∀ (y : Value) j u, [y][j]? = some u → ((w2.setCell ⟨T, 1, none⟩ (.slice (some ⟨g, 0, none⟩) (k + 1) cap)).alloc (.cells #[y] 3)).cell? ((⟨w2.heap.size, 0, none⟩ : Addr).add j) = some u := by
                   intro y j u hj
                   rw [← hs2]
                   exact cell_one_new _ _ _ j u hj
                 have f1 : w2.frozen? ⟨T, 1, none⟩ = false := Lib.frozen_of_heap hT2 1))
            go_roundw
            case rel =>
              refine ⟨k + 1, .slice (some ⟨g, 0, none⟩) (k + 1) cap, by omega, by go_num, ?_⟩
              rw [HNX.out]
              dsimp only
              rw [List.map_append]
              exact hR2
            case measure => simp [intOf]; omega
          · clear hxi
            go_wp2_with (at_builtin; first
              | (refine wpList_append_lies _ rfl _ _ 24 rfl (T + 1) 3 i0 (.int .i64 0) 1 8 Try.underlying24 hi hz0 hz1 hz2 rfl (by decide) _ _ _ rfl (hR.hE.alloc _) ⟨wr.heap.size, 0, none⟩ 1 1 [.int .i64 (-1)] rfl rfl (cell_one_new _ _ _) (by intro u hu; simp at hu; subst hu; rfl) (by decide) (by unfold maxLen; omega) (by omega) (by simp; omega) _ rfl ?_
                 intro g cap w2 hE2 hg2 hg3 hg4
                 have hR2 := (hR.alloc (.cells #[.int .i64 (-1)] 3)).pushE hE2 hg2 hg3
                 have hT2 : w2.heap[T]? = some (.cells #[.slice (some ⟨b, o, none⟩) n ca, ev, .int .i64 D] 49 (0, 0)) := by
                   rw [hg2.block T (by simp; omega) (fun e => by have := (hR.hE.lt T e.symm).1; omega)]
                   exact (hR.alloc _).hT
                 have d1 : w2.cell? ⟨T, 1, none⟩ = some ev := by rw [Lib.cell_of_heap hT2]; rfl
                 have hs2 : (w2.setCell ⟨T, 1, none⟩ (.slice (some ⟨g, 0, none⟩) (k + 1) cap)).heap.size = w2.heap.size := by simp [World.setCell]
                 have hN2 : ∀ (y : Value) j u, [y][j]? = some u → ((w2.setCell ⟨T, 1, none⟩ (.slice (some ⟨g, 0, none⟩) (k + 1) cap)).alloc (.cells #[y] 3)).cell? ((⟨w2.heap.size, 0, none⟩ : Addr).add j) = some u := by
                   intro y j u hj
                   rw [← hs2]
                   exact cell_one_new _ _ _ j u hj
                 have f1 : w2.frozen? ⟨T, 1, none⟩ = false := Lib.frozen_of_heap hT2 1))
            go_roundw
            case rel =>
              refine ⟨k + 1, .slice (some ⟨g, 0, none⟩) (k + 1) cap, by omega, by go_num, ?_⟩
              rw [HNX.out]
              dsimp only
              rw [List.map_append]
              exact hR2
            case measure => simp [intOf]; omega
    · have hend : rdRun n xs = (E, O, D) := by rwa [List.take_of_length_le (by have := HN.out; omega)] at hst
      have hkn : k = n := by omega
      subst hkn
      have hr : wr.heap[w.heap.size]? = some (.cells #[.slice none 0 0, .slice none 0 0, .int .i64 0] 49 (0, 0)) := by
        have hlt2 : w.heap.size < (w.alloc (.cells #[.slice none 0 0, .slice none 0 0, .int .i64 0] 49)).heap.size := by simp
        have h1 := HW1.out.block w.heap.size hlt2
        have h2 := hR.hbel.block w.heap.size (by have := HW1.out.size; have := HT.out; omega)
        rw [h2, h1]
        exact heap_alloc_new w _
      have r0 : wr.cell? ⟨w.heap.size, 0, none⟩ = some (.slice none 0 0) := by rw [Lib.cell_of_heap hr]; rfl
      have r1 : wr.cell? ⟨w.heap.size, 1, none⟩ = some (.slice none 0 0) := by rw [Lib.cell_of_heap hr]; rfl
      have r2 : wr.cell? ⟨w.heap.size, 2, none⟩ = some (.int .i64 0) := by rw [Lib.cell_of_heap hr]; rfl
      have q0 : wr.frozen? ⟨w.heap.size, 0, none⟩ = false := Lib.frozen_of_heap hr 0
      have q1 : wr.frozen? ⟨w.heap.size, 1, none⟩ = false := Lib.frozen_of_heap hr 1
      have q2 : wr.frozen? ⟨w.heap.size, 2, none⟩ = false := Lib.frozen_of_heap hr 2
      obtain ⟨aoe, cape, rfl⟩ : ∃ ao cap, ev = .slice ao k cap := by
        rcases hR.hE.2 with ⟨hv, h0⟩ | ⟨g, cap, cur, hv, _⟩
        · exact ⟨none, 0, by rw [hv, h0]⟩
        · exact ⟨_, _, hv⟩
      have t0 := hR.c0
      have t2 := hR.c2
      have s1 := Lib.heap_setCell_same (i := 0) hr (.slice ao k ca)
      have s2 := Lib.heap_setCell_same (i := 1) s1 (.slice aoe k cape)
      have s3 := Lib.heap_setCell_same (i := 2) s2 (.int .i64 D)
      have m8 := s3
      obtain ⟨W1, hW1⟩ : ∃ W1, wr.setCell ⟨w.heap.size, 0, none⟩ (.slice ao k ca) = W1 := ⟨_, rfl⟩
      rw [hW1] at s1 s2 s3
      obtain ⟨W2, hW2⟩ : ∃ W2, W1.setCell ⟨w.heap.size, 1, none⟩ (.slice aoe k cape) = W2 := ⟨_, rfl⟩
      rw [hW2] at s2 s3
      have m1 : (wr.setCell ⟨w.heap.size, 0, none⟩ (.slice ao k ca)).cell? ⟨w.heap.size, 1, none⟩ = some (.slice none 0 0) := by rw [hW1, Lib.cell_of_heap s1]; rfl
      have m2 : (wr.setCell ⟨w.heap.size, 0, none⟩ (.slice ao k ca)).frozen? ⟨w.heap.size, 1, none⟩ = false := by rw [hW1]; exact Lib.frozen_of_heap s1 1
      have m3 : ((wr.setCell ⟨w.heap.size, 0, none⟩ (.slice ao k ca)).setCell ⟨w.heap.size, 1, none⟩ (.slice aoe k cape)).cell? ⟨w.heap.size, 2, none⟩ = some (.int .i64 0) := by rw [hW1, hW2, Lib.cell_of_heap s2]; rfl
      have m4 : ((wr.setCell ⟨w.heap.size, 0, none⟩ (.slice ao k ca)).setCell ⟨w.heap.size, 1, none⟩ (.slice aoe k cape)).frozen? ⟨w.heap.size, 2, none⟩ = false := by rw [hW1, hW2]; exact Lib.frozen_of_heap s2 2
      have m5 : (((wr.setCell ⟨w.heap.size, 0, none⟩ (.slice ao k ca)).setCell ⟨w.heap.size, 1, none⟩ (.slice aoe k cape)).setCell ⟨w.heap.size, 2, none⟩ (.int .i64 D)).cell? ⟨w.heap.size, 0, none⟩ = some (.slice ao k ca) := by rw [hW1, hW2, Lib.cell_of_heap s3]; rfl
      have m6 : (((wr.setCell ⟨w.heap.size, 0, none⟩ (.slice ao k ca)).setCell ⟨w.heap.size, 1, none⟩ (.slice aoe k cape)).setCell ⟨w.heap.size, 2, none⟩ (.int .i64 D)).cell? ⟨w.heap.size, 1, none⟩ = some (.slice aoe k cape) := by rw [hW1, hW2, Lib.cell_of_heap s3]; rfl
      have m7 : (((wr.setCell ⟨w.heap.size, 0, none⟩ (.slice ao k ca)).setCell ⟨w.heap.size, 1, none⟩ (.slice aoe k cape)).setCell ⟨w.heap.size, 2, none⟩ (.int .i64 D)).cell? ⟨w.heap.size, 2, none⟩ = some (.int .i64 D) := by rw [hW1, hW2, Lib.cell_of_heap s3]; rfl
      have HE := Lib.hid hend
      clear hend hst hW1 hW2 s1 s2 s3
      go_wp2
      try simp only [Exit.inBlock, Exit.then]
      refine bodyPost_ret (v := .agg #[.slice ao k ca, .slice aoe k cape, .int .i64 D]) (results_cell_row rfl _ _ w.heap.size _ _ _ _ rfl m8 Try.underlying49 rfl (by kernel_rfl)) rfl ?_
      refine ⟨_, rfl, ⟨.slice ao k ca, .slice aoe k cape, ?_, ?_, ?_⟩, ?_⟩
      · rw [← HN.out, HE.out]
      · refine ⟨ao, ca, by rw [← HN.out], fun hl => ?_⟩
        rw [← HN.out] at hl
        obtain ⟨b, o, e, hb, hc⟩ := HA.out hl
        have hlo := HLOW.out b o e
        have hbs := HT.out
        have hlt3 := hR.lt
        refine ⟨b, o, e, by simp [World.setCell]; omega, fun i hi => ?_⟩
        rw [← HN.out] at hi
        rw [World.cell?_of_block (w := wr)]
        · exact (hR.hbel.cell (p := ⟨b, o + i, none⟩) (by show b < T; omega)).trans (hc i hi)
        · show (World.setCell _ _ _).heap[b]? = wr.heap[b]?
          rw [Below.heap_setCell _ _ _ _ (by show b ≠ w.heap.size; omega), Below.heap_setCell _ _ _ _ (by show b ≠ w.heap.size; omega), Below.heap_setCell _ _ _ _ (by show b ≠ w.heap.size; omega)]
      · rw [← HN.out, HE.out]
        have hTw : w.heap.size < T := by have h1 := HW1.out.size; have h2 := HT.out; simp at h1; omega
        have h3 := ownsRow_setCell_below (a := ⟨w.heap.size, 2, none⟩) (ownsRow_setCell_below (a := ⟨w.heap.size, 1, none⟩) (ownsRow_setCell_below (a := ⟨w.heap.size, 0, none⟩) hR.hE (by show w.heap.size < T + 1; omega) (.slice ao k ca)) (by show w.heap.size < T + 1; omega) (.slice aoe k cape)) (by show w.heap.size < T + 1; omega) (.int .i64 D)
        have hkE : k = E.length := hk1.symm
        rw [hkE] at h3 ⊢
        exact IsInts.of_own h3
      · have hTw : w.heap.size ≤ T := by have h1 := HW1.out.size; have h2 := HT.out; simp at h1; omega
        have hw1 : Below w.heap.size w w1 := ((Below.refl w.heap.size w).alloc (Nat.le_refl _) _).trans (HW1.out.mono (by simp))
        exact (((hw1.trans (hR.hbel.mono hTw)).setCell (p := ⟨w.heap.size, 0, none⟩) (Nat.le_refl _) _).setCell (p := ⟨w.heap.size, 1, none⟩) (Nat.le_refl _) _).setCell (p := ⟨w.heap.size, 2, none⟩) (Nat.le_refl _) _
end Go.Proofs.Ytgefbagojghmeaa
