/-
  bidi.items: the items of a segment of a text.
-/
import Derived.Test.YtgefbagojghmeaaBi2
namespace Go.Proofs.Ytgefbagojghmeaa
open Go.RowKit

theorem Try.infoItem : (Try.prog.info? 73).map (fun i => (i.zero, i.size, i.bytes)) = some (some (.agg #[.int .i64 0, .int .i64 0, .int .i64 0]), 3, 24) := by kernel_rfl
theorem cell_three_new (w : World) (a b c : Value) (e : TypeId) : ∀ j u, [a, b, c][j]? = some u → (w.alloc (.cells #[a, b, c] e)).cell? ((⟨w.heap.size, 0, none⟩ : Addr).add j) = some u := by
  intro j u hj
  have e1 : (⟨w.heap.size, 0, none⟩ : Addr).add j = ⟨w.heap.size, j, none⟩ := by unfold Addr.add; split <;> simp_all
  rw [e1, cell_of_row _ _ j _ _ _ (heap_alloc_new w _)]
  simpa using hj
theorem own_lower {w : World} {base base' : Nat} {e : TypeId} {size : Nat} {v : Value} {n : Nat} {xs : List Value} (h : w.ownsRow base e size v n xs) (hb : base' ≤ base) : w.ownsRow base' e size v n xs :=
  ⟨h.1, h.2.imp id fun ⟨g, cap, cur, h1, h2, h3⟩ => ⟨g, cap, cur, h1, Nat.le_trans hb h2, h3⟩⟩
def ItemsP (xs : List Int) (a b : Nat) (w : World) (e : Ending) (w' : World) : Prop :=
  ∃ r, e = .returned r ∧ w'.ownsRow w.heap.size 73 3 r (items xs a b).length (flat3 (items xs a b)) ∧ Below w.heap.size w w'

set_option maxRecDepth 100000 in
set_option maxHeartbeats 2000000 in
theorem bitems_any (v : Value) (xs : List Int) (B a b : Nat) (w : World) (hv : IsText w B v xs) (hB : B ≤ w.heap.size) (hx : xs.length ≤ 10000) (hab : a ≤ xs.length) (hb : b ≤ xs.length) :
    Calls Try.prog 42 #[v, .int .i64 a, .int .i64 b] w (ItemsP xs a b w) := by
  obtain ⟨j0, hj, hz0, hz1, hz2⟩ := info_parts Try.infoItem
  obtain ⟨lv, ev, rfl, ⟨ao, ca, rfl, hl⟩, ⟨aoe, cae, rfl, he⟩⟩ := hv
  have hlen := (rdRun_ok xs.length xs).1
  rw [hlen] at he
  have hends := rdRun_end xs
  obtain ⟨D, hD⟩ : ∃ D, (rdRun xs.length xs).2.2 = D := ⟨_, rfl⟩
  rw [hD, hlen]
  obtain ⟨n, hn⟩ : ∃ n, n = xs.length := ⟨_, rfl⟩
  rw [← hn] at hl he hx hab hb hends
  rw [← hn]
  have hil := (items_ok (xs := xs) (b := b) (by omega) (b - a) a (Nat.le_refl _)).1
  unfold ItemsP
  obtain ⟨R, hR⟩ : ∃ R, items xs a b = R := ⟨_, rfl⟩
  rw [hR] at hil
  rw [hR]
  have HL := Lib.hid hl
  have HE := Lib.hid he
  have HN := Lib.hid hn
  have HR := Lib.hid hR
  have HEND := Lib.hid hends
  obtain ⟨T, hT⟩ : ∃ T, T = w.heap.size := ⟨_, rfl⟩
  have HT := Lib.hid hT
  have HD := Lib.hid hD
  clear hl he hn hR hends hT hlen hD
  go_enter Try.func42, Try.ntmps42
  go_wp2
  rw [← HT.out]
  go_loopw [7, 8] (fun ov i wr => ∃ (k : Nat) (acc : List (Nat × Nat × Int)), a ≤ k ∧ k ≤ n + 1 ∧ i = .int .i64 k ∧ R = acc ++ items xs k b ∧ wr.ownsRow (T + 1) 73 3 ov acc.length (flat3 acc) ∧ wr.heap[T]? = some (.cells #[.slice ao n ca, .slice aoe n cae, .int .i64 D] 49 (0, 0)) ∧ Below T w wr) (fun _ i _ => n + 1 - (intOf i).toNat)
  case atStart => exact ⟨a, [], Nat.le_refl _, by omega, rfl, HR.out.symm, World.ownsRow_nil _ _ _ _, by rw [HT.out]; exact heap_alloc_new w _, by rw [HT.out]; exact (Below.refl _ _).alloc (Nat.le_refl _) _⟩
  case round =>
    obtain ⟨k, acc, hk0, hk, rfl, hm, hown, hTw, hbel⟩ := hrel
    have k0 : (0 : Int) ≤ (k : Int) := by omega
    have t0 : wr.cell? ⟨T, 0, none⟩ = some (.slice ao n ca) := by rw [Lib.cell_of_heap hTw]; rfl
    have t1 : wr.cell? ⟨T, 1, none⟩ = some (.slice aoe n cae) := by rw [Lib.cell_of_heap hTw]; rfl
    have hTl : T < wr.heap.size := (Array.getElem?_eq_some_iff.1 hTw).1
    by_cases hlt : k < b
    · obtain ⟨b0, o0, rfl, hb0, hcl⟩ := HL.out (by omega)
      obtain ⟨b1, o1, rfl, hb1, hce⟩ := HE.out (by omega)
      have c0 := (hbel.cell (p := ⟨b0, o0 + k, none⟩) (by show b0 < T; have := HT.out; omega)).trans (hcl k (by omega))
      have c1 := (hbel.cell (p := ⟨b1, o1 + k, none⟩) (by show b1 < T; have := HT.out; omega)).trans (hce k (by omega))
      have hen := HEND.out k (by omega)
      rw [hen] at c1
      have k1 : (k : Int) < (b : Int) := by omega
      have k2 : (k : Int) < (n : Int) := by omega
      have hal : acc.length ≤ n := by
        have := congrArg List.length hm
        rw [List.length_append] at this
        omega
      by_cases hxi : initB (xs.getD k 0) = true
      · have hg := match_ge (xs := xs) (k := k) (by have := HN.out; omega) hxi
        rw [items_init hlt (by have := HN.out; omega) hxi] at hm
        rw [if_pos hxi] at c1
        obtain ⟨M, hM⟩ : ∃ M, matchV xs k = M := ⟨_, rfl⟩
        rw [hM] at hm c1 hg
        have hMn : M ≤ n := by have := HN.out; omega
        have hMk : k + 1 ≤ M := hg.1
        have M0 : (0 : Int) ≤ (M : Int) := by omega
        have HM := Lib.hid hm
        have HTW := Lib.hid hTw
        have HBEL := Lib.hid hbel
        have HO := Lib.hid hown
        clear hm hen hcl hce hM hg hTw hbel hxi
        go_wp2_with (at_builtin; first
          | (refine wpList_append_lies _ rfl _ _ 55 rfl (T + 1) 73 j0 (.agg #[.int .i64 0, .int .i64 0, .int .i64 0]) 3 24 Try.underlying55 hj hz0 hz1 hz2 rfl (by decide) _ _ _ rfl (hown.alloc _) ⟨wr.heap.size, 0, none⟩ 1 1 [.int .i64 k, .int .i64 M, .int .i64 0] rfl rfl (cell_three_new _ _ _ _ _) (by intro u hu; simp at hu; rcases hu with rfl | rfl | rfl <;> rfl) (by decide) (by unfold maxLen; omega) (by omega) (by simp; omega) _ rfl ?_
             intro g cap w2 hE2 hg2 hg3 hg4
             have hTw2 : w2.heap[T]? = some (.cells #[.slice (some ⟨b0, o0, none⟩) n ca, .slice (some ⟨b1, o1, none⟩) n cae, .int .i64 D] 49 (0, 0)) := by
               rw [hg2.block T (by simp; omega) (fun e => by have := (HO.out.lt T e.symm).1; omega)]
               exact (Lib.alloc_old wr _ T hTl).trans HTW.out
             have t2 : w2.cell? ⟨T, 1, none⟩ = some (.slice (some ⟨b1, o1, none⟩) n cae) := by rw [Lib.cell_of_heap hTw2]; rfl
             have hbel2 : Below T w w2 := (HBEL.out.alloc (Nat.le_of_lt hTl) _).grown hg2 (by simp; omega) (fun j e => by have := (HO.out.lt j e).1; omega)
             have c2 : w2.cell? ⟨b1, o1 + k, none⟩ = some (.int .i64 M) := (hbel2.cell (p := ⟨b1, o1 + k, none⟩) (by show b1 < T; have := HT.out; omega)).trans ((HBEL.out.cell (p := ⟨b1, o1 + k, none⟩) (by show b1 < T; have := HT.out; omega)).symm.trans c1)))
        go_roundw
        case rel =>
          refine ⟨M + 1, acc ++ [(k, M, 0)], by omega, by omega, by go_num, ?_, ?_, hTw2, hbel2⟩
          · rw [HM.out, List.append_assoc]
            rfl
          · rw [List.length_append, flat3_app]
            exact hE2
        case measure => simp [intOf]; omega
      · rw [items_leaf hlt (by have := HN.out; omega) hxi] at hm
        rw [if_neg hxi] at c1
        obtain ⟨x, hx'⟩ : ∃ x, xs.getD k 0 = x := ⟨_, rfl⟩
        rw [hx'] at c0 hm
        have HM := Lib.hid hm
        have HTW := Lib.hid hTw
        have HBEL := Lib.hid hbel
        have HO := Lib.hid hown
        clear hm hen hcl hce hTw hbel hxi hx'
        go_wp2_with fail
        refine (bclass_any _ _).mono ?_
        rintro e wq ⟨rfl, rfl⟩
        go_wp2_with (at_builtin; first
          | (refine wpList_append_lies _ rfl _ _ 55 rfl (T + 1) 73 j0 (.agg #[.int .i64 0, .int .i64 0, .int .i64 0]) 3 24 Try.underlying55 hj hz0 hz1 hz2 rfl (by decide) _ _ _ rfl (hown.alloc _) ⟨wr.heap.size, 0, none⟩ 1 1 [.int .i64 k, .int .i64 k, .int .i64 (bcl x)] rfl rfl (cell_three_new _ _ _ _ _) (by intro u hu; simp at hu; rcases hu with rfl | rfl <;> rfl) (by decide) (by unfold maxLen; omega) (by omega) (by simp; omega) _ rfl ?_
             intro g cap w2 hE2 hg2 hg3 hg4
             have hTw2 : w2.heap[T]? = some (.cells #[.slice (some ⟨b0, o0, none⟩) n ca, .slice (some ⟨b1, o1, none⟩) n cae, .int .i64 D] 49 (0, 0)) := by
               rw [hg2.block T (by simp; omega) (fun e => by have := (HO.out.lt T e.symm).1; omega)]
               exact (Lib.alloc_old wr _ T hTl).trans HTW.out
             have hbel2 : Below T w w2 := (HBEL.out.alloc (Nat.le_of_lt hTl) _).grown hg2 (by simp; omega) (fun j e => by have := (HO.out.lt j e).1; omega)))
        go_roundw
        case rel =>
          refine ⟨k + 1, acc ++ [(k, k, bcl x)], by omega, by omega, by go_num, ?_, ?_, hTw2, hbel2⟩
          · rw [HM.out, List.append_assoc]
            rfl
          · rw [List.length_append, flat3_app]
            exact hE2
        case measure => simp [intOf]; omega
    · rw [items_nil (by omega), List.append_nil] at hm
      subst hm
      have HO := Lib.hid hown
      have HBEL := Lib.hid hbel
      clear hown hbel hTw
      go_wp2
      go_ret
      refine ⟨_, rfl, own_lower HO.out (by have := HT.out; omega), ?_⟩
      rw [← HT.out]
      exact HBEL.out
end Go.Proofs.Ytgefbagojghmeaa
