/-
  calqueref23.items: the items of a segment, with their directions.
-/
import Derived.Test.YtgefbagojghmeaaBi6
namespace Go.Proofs.Ytgefbagojghmeaa
open Go.RowKit

theorem Try.infoItem4 : (Try.prog.info? 78).map (fun i => (i.zero, i.size, i.bytes)) = some (some (.agg #[.int .i64 0, .int .i64 0, .int .i64 0, .int .i64 0]), 4, 32) := by kernel_rfl
def to4 (x : Nat × Nat × Int) : Int := if x.2.1 = x.1 then -1 else x.2.1
def cells4 (x : (Nat × Nat × Int) × Int) : List Value := [.int .i64 x.1.1, .int .i64 (to4 x.1), .int .i64 x.1.2.2, .int .i64 x.2]
def flat4 (l : List ((Nat × Nat × Int) × Int)) : List Value := l.flatMap cells4
theorem flat4_app (a b : List ((Nat × Nat × Int) × Int)) : flat4 (a ++ b) = flat4 a ++ flat4 b := by unfold flat4; rw [List.flatMap_append]
theorem flat4_at : ∀ (l : List ((Nat × Nat × Int) × Int)) (i : Nat) (x : (Nat × Nat × Int) × Int), l[i]? = some x →
    (flat4 l)[4 * i]? = some (.int .i64 x.1.1) ∧ (flat4 l)[4 * i + 1]? = some (.int .i64 (to4 x.1)) ∧ (flat4 l)[4 * i + 2]? = some (.int .i64 x.1.2.2) ∧ (flat4 l)[4 * i + 3]? = some (.int .i64 x.2)
  | [], i, x, h => by simp at h
  | y :: l, 0, x, h => by
    simp at h
    subst h
    exact ⟨rfl, rfl, rfl, rfl⟩
  | y :: l, i + 1, x, h => by
    have h : l[i]? = some x := by simpa using h
    obtain ⟨a, b, c, d⟩ := flat4_at l i x h
    have e : flat4 (y :: l) = cells4 y ++ flat4 l := rfl
    have e2 : (cells4 y).length = 4 := rfl
    rw [e, show 4 * (i + 1) = 4 * i + 4 by omega]
    refine ⟨?_, ?_, ?_, ?_⟩
    · rw [List.getElem?_append_right (by omega), e2]; simpa using a
    · rw [List.getElem?_append_right (by omega), e2]; simpa using b
    · rw [List.getElem?_append_right (by omega), e2]; simpa using c
    · rw [List.getElem?_append_right (by omega), e2]; simpa using d
/-- A slice that reads as items with directions. -/
def IsItems4 (w : World) (B : Nat) (v : Value) (l : List ((Nat × Nat × Int) × Int)) : Prop :=
  ∃ ao cap, v = .slice ao l.length cap ∧ (0 < l.length → ∃ b o, ao = some ⟨b, o, none⟩ ∧ b < B ∧ ∀ i x, l[i]? = some x →
    w.cell? ⟨b, o + i * 4, none⟩ = some (.int .i64 x.1.1) ∧ w.cell? ⟨b, o + i * 4 + 1, none⟩ = some (.int .i64 (to4 x.1)) ∧ w.cell? ⟨b, o + i * 4 + 2, none⟩ = some (.int .i64 x.1.2.2) ∧ w.cell? ⟨b, o + i * 4 + 3, none⟩ = some (.int .i64 x.2))
theorem IsItems4.of_own {w : World} {base : Nat} {e : TypeId} {v : Value} {l : List ((Nat × Nat × Int) × Int)} (h : w.ownsRow base e 4 v l.length (flat4 l)) : IsItems4 w w.heap.size v l := by
  by_cases hl : 0 < l.length
  · obtain ⟨g, cap, rfl, _, hlt⟩ := h.form hl
    have hc := h.cells (g := g) rfl
    refine ⟨some ⟨g, 0, none⟩, cap, rfl, fun _ => ⟨g, 0, rfl, hlt, fun i x hi => ?_⟩⟩
    obtain ⟨c0, c1, c2, c3⟩ := flat4_at l i x hi
    have e : ∀ j, (⟨g, 0, none⟩ : Addr).add j = ⟨g, 0 + j, none⟩ := by intro j; unfold Addr.add; split <;> simp_all
    have d0 := hc _ _ c0
    have d1 := hc _ _ c1
    have d2 := hc _ _ c2
    have d3 := hc _ _ c3
    rw [e] at d0 d1 d2 d3
    rw [Nat.mul_comm 4 i] at d0 d1 d2 d3
    exact ⟨d0, d1, d2, d3⟩
  · have : l = [] := List.eq_nil_of_length_eq_zero (by omega)
    subst this
    rcases h.2 with ⟨rfl, _⟩ | ⟨g, cap, cur, rfl, _⟩
    · exact ⟨none, 0, rfl, fun hl => absurd hl (by simp)⟩
    · exact ⟨_, cap, rfl, fun hl => absurd hl (by simp)⟩
theorem cell_four_new (w : World) (a b c d : Value) (e : TypeId) : ∀ j u, [a, b, c, d][j]? = some u → (w.alloc (.cells #[a, b, c, d] e)).cell? ((⟨w.heap.size, 0, none⟩ : Addr).add j) = some u := by
  intro j u hj
  have e1 : (⟨w.heap.size, 0, none⟩ : Addr).add j = ⟨w.heap.size, j, none⟩ := by unfold Addr.add; split <;> simp_all
  rw [e1, cell_of_row _ _ j _ _ _ (heap_alloc_new w _)]
  simpa using hj
theorem cell_four_new2 (w : World) (o : Obj) (a b c d : Value) (e : TypeId) : ∀ j u, [a, b, c, d][j]? = some u → ((w.alloc o).alloc (.cells #[a, b, c, d] e)).cell? ((⟨w.heap.size + 1, 0, none⟩ : Addr).add j) = some u := by
  have := cell_four_new (w.alloc o) a b c d e
  rw [show (w.alloc o).heap.size = w.heap.size + 1 by simp] at this
  exact this
/-- The items of a segment with their directions. -/
def items4 (xs : List Int) (a b : Nat) (e : Int) : List ((Nat × Nat × Int) × Int) := (items xs a b).zip (dirs (own e) (clsOf (items xs a b)))

set_option maxRecDepth 100000 in
set_option maxHeartbeats 4000000 in
theorem ritems_any (v : Value) (xs : List Int) (B a b e : Nat) (w : World) (hv : IsInts w B v xs) (hB : B ≤ w.heap.size) (hx : xs.length ≤ 10000) (hab : a ≤ xs.length) (hb : b ≤ xs.length) (he : e ≤ 1000) :
    Calls Try.prog 54 #[v, .int .i64 a, .int .i64 b, .int .i64 e] w fun x w' =>
      ∃ r, x = .returned r ∧ w'.ownsRow w.heap.size 78 4 r (items4 xs a b e).length (flat4 (items4 xs a b e)) ∧ Below w.heap.size w w' := by
  obtain ⟨j0, hj, hz0, hz1, hz2⟩ := info_parts Try.infoItem4
  have hmt := fun W k (hW : IsInts W B v xs) hk hi => match_any v xs B k W hW (by omega) hk hi
  have hbe := fun (W : World) (h : Below B w W) => hv.below h
  obtain ⟨ao, ca, rfl, hl⟩ := hv
  obtain ⟨n, hn⟩ : ∃ n, n = xs.length := ⟨_, rfl⟩
  rw [← hn] at hl hx hab hb hmt hbe
  rw [← hn]
  unfold MatchP at hmt
  have hil := (items_ok (xs := xs) (b := b) (by omega) (b - a) a (Nat.le_refl _)).1
  unfold items4
  have hRl : ((items xs a b).zip (dirs (own e) (clsOf (items xs a b)))).length ≤ b - a := by rw [List.length_zip]; omega
  obtain ⟨R, hR⟩ : ∃ R, (items xs a b).zip (dirs (own e) (clsOf (items xs a b))) = R := ⟨_, rfl⟩
  rw [hR] at hRl
  rw [hR]
  have hso := own_or (e : Int)
  have e0 : (0 : Int) ≤ (e : Int) := by omega
  have e1 : (e : Int).tmod 2 = (e : Int) % 2 := Int.tmod_eq_emod_of_nonneg e0
  have hoe : own (e : Int) = 1 + (e : Int) % 2 := rfl
  obtain ⟨O, hO⟩ : ∃ O, own (e : Int) = O := ⟨_, rfl⟩
  rw [hO] at hR hso hoe
  have hE2 : (e : Int) % 2 = O - 1 := by omega
  rw [hE2] at e1
  have HL := Lib.hid hl
  have HN := Lib.hid hn
  have HR := Lib.hid hR
  have HMT := Lib.hid hmt
  have HBE := Lib.hid hbe
  have HSO := Lib.hid hso
  obtain ⟨T, hT⟩ : ∃ T, T = w.heap.size := ⟨_, rfl⟩
  have HT := Lib.hid hT
  rw [← hT]
  clear hl hn hR hT hmt hbe hoe hO hE2 hil
  have hO2 : 1 + (O - 1) = O := by omega
  rcases hso with rfl | rfl
  all_goals
    clear hO2
    go_enter Try.func54, Try.ntmps54
    go_wp2
    go_loopw [9, 10, 11, 12] (fun ov lv i _ wr => ∃ (k : Nat) (last : Int) (acc : List ((Nat × Nat × Int) × Int)), a ≤ k ∧ k ≤ n + 1 ∧ i = .int .i64 k ∧ lv = .int .i64 last ∧ R = acc ++ (items xs k b).zip (dirs last (clsOf (items xs k b))) ∧ wr.ownsRow T 78 4 ov acc.length (flat4 acc) ∧ Below T w wr) (fun _ _ i _ _ => n + 1 - (intOf i).toNat)
    case atStart => exact ⟨a, _, [], Nat.le_refl _, by omega, rfl, rfl, HR.out.symm, World.ownsRow_nil _ _ _ _, Below.refl _ _⟩
    case round =>
      obtain ⟨k, last, acc, hk0, hk, rfl, rfl, hm, hown, hbel⟩ := hrel
      have k0 : (0 : Int) ≤ (k : Int) := by omega
      by_cases hlt : k < b
      · have hmW := fun hk hi => HMT.out (wr.alloc (.cells #[.int .i64 k, .int .i64 (-1), .int .i64 0, .int .i64 0] 78)) k (HBE.out _ ((hbel.mono (by have := HT.out; omega)).alloc (by have := hbel.size; omega) _)) hk hi
        obtain ⟨b0, o0, rfl, hb0, hcl⟩ := HL.out (by omega)
        have c0 := (hbel.cell (p := ⟨b0, o0 + k, none⟩) (by show b0 < T; have := HT.out; omega)).trans (hcl k (by omega))
        have k1 : (k : Int) < (b : Int) := by omega
        have k2 : (k : Int) < (n : Int) := by omega
        have hal : acc.length ≤ n := by
          have := congrArg List.length hm
          rw [List.length_append] at this
          omega
        have hit := items_init (xs := xs) (a := k) (b := b) hlt (by have := HN.out; omega)
        have hlf := items_leaf (xs := xs) (a := k) (b := b) hlt (by have := HN.out; omega)
        have hge := match_ge (xs := xs) (k := k) (by have := HN.out; omega)
        have hmk := hmW (by omega)
        obtain ⟨x, hx'⟩ : ∃ x, xs.getD k 0 = x := ⟨_, rfl⟩
        rw [hx'] at c0 hit hlf hge hmk
        have hcz := class_any x wr
        unfold ClassP at hcz
        have hcc := cls_cases x
        obtain ⟨z, hz⟩ : ∃ z, cls x = z := ⟨_, rfl⟩
        rw [hz] at hcz hcc
        have HC := Lib.hid hcz
        have HBEL := Lib.hid hbel
        clear hcl hx' hcz hz hmW hbel
        rcases hcc with ⟨rfl, h1, h2⟩ | ⟨rfl, h1, h2⟩ | ⟨h0, h1, h2, h3⟩
        · have hmk := hmk h1
          obtain ⟨g1, g2⟩ := hge h1
          rw [hit h1] at hm
          obtain ⟨M, hM⟩ : ∃ M, matchV xs k = M := ⟨_, rfl⟩
          rw [hM] at hmk hm g1 g2
          have HMK := Lib.hid hmk
          have g2 : M ≤ n := by have := HN.out; omega
          have hm : R = acc ++ ((k, M, 0), 0) :: (items xs (M + 1) b).zip (dirs last (clsOf (items xs (M + 1) b))) := hm
          have t4 : to4 (k, M, 0) = (M : Int) := by unfold to4; rw [if_neg (by dsimp only; omega)]
          have HM := Lib.hid hm
          have HO := Lib.hid hown
          clear hit hlf hge hmk hm h1 h2 hM
          go_wp2_with fail
          refine (HC.out).mono ?_
          rintro e wq ⟨rfl, rfl⟩
          go_wp2_with fail
          refine (HMK.out).mono ?_
          rintro e wq ⟨rfl, rfl⟩
          go_wp2_with (at_builtin; first
            | (refine wpList_append_lies _ rfl _ _ 75 rfl T 78 j0 (.agg #[.int .i64 0, .int .i64 0, .int .i64 0, .int .i64 0]) 4 32 Try.underlying75 hj hz0 hz1 hz2 rfl (by decide) _ _ _ rfl ((hown.alloc _).alloc _) ⟨wr.heap.size + 1, 0, none⟩ 1 1 [.int .i64 k, .int .i64 M, .int .i64 0, .int .i64 0] rfl rfl (cell_four_new2 _ _ _ _ _ _ _) (by intro u hu; simp at hu; rcases hu with rfl | rfl | rfl <;> rfl) (by decide) (by unfold maxLen; omega) (by omega) (by have := HBEL.out.size; have := HT.out; simp; omega) _ rfl ?_
               intro g cap w2 hE2 hg2 hg3 hg4
               have hbel2 : Below T w w2 := (((HBEL.out.alloc (by have := HBEL.out.size; have := HT.out; omega) _).alloc (by have := HBEL.out.size; have := HT.out; simp; omega) _).grown hg2 (by have := HBEL.out.size; have := HT.out; simp; omega) (fun j e => (HO.out.lt j e).1)) ))
          go_roundw
          case rel =>
            refine ⟨M + 1, last, acc ++ [((k, M, 0), 0)], by omega, by omega, by go_num, rfl, ?_, ?_, hbel2⟩
            · rw [HM.out, List.append_assoc]
              rfl
            · rw [List.length_append, flat4_app]
              unfold flat4 cells4
              simp only [List.flatMap_cons, List.flatMap_nil, List.append_nil, t4]
              exact hE2
          case measure => simp [intOf]; omega
        · rw [hlf (by simp [h1]), h2] at hm
          have hm : R = acc ++ ((k, k, 0), 0) :: (items xs (k + 1) b).zip (dirs last (clsOf (items xs (k + 1) b))) := hm
          have t4 : to4 (k, k, 0) = -1 := by unfold to4; rw [if_pos rfl]
          have HM := Lib.hid hm
          have HO := Lib.hid hown
          clear hit hlf hge hmk hm h1 h2
          go_wp2_with fail
          refine (HC.out).mono ?_
          rintro e wq ⟨rfl, rfl⟩
          go_wp2_with (at_builtin; first
            | (refine wpList_append_lies _ rfl _ _ 75 rfl T 78 j0 (.agg #[.int .i64 0, .int .i64 0, .int .i64 0, .int .i64 0]) 4 32 Try.underlying75 hj hz0 hz1 hz2 rfl (by decide) _ _ _ rfl ((hown.alloc _).alloc _) ⟨wr.heap.size + 1, 0, none⟩ 1 1 [.int .i64 k, .int .i64 (-1), .int .i64 0, .int .i64 0] rfl rfl (cell_four_new2 _ _ _ _ _ _ _) (by intro u hu; simp at hu; rcases hu with rfl | rfl | rfl <;> rfl) (by decide) (by unfold maxLen; omega) (by omega) (by have := HBEL.out.size; have := HT.out; simp; omega) _ rfl ?_
               intro g cap w2 hE2 hg2 hg3 hg4
               have hbel2 : Below T w w2 := (((HBEL.out.alloc (by have := HBEL.out.size; have := HT.out; omega) _).alloc (by have := HBEL.out.size; have := HT.out; simp; omega) _).grown hg2 (by have := HBEL.out.size; have := HT.out; simp; omega) (fun j e => (HO.out.lt j e).1)) ))
          go_roundw
          case rel =>
            refine ⟨k + 1, last, acc ++ [((k, k, 0), 0)], by omega, by omega, by go_num, rfl, ?_, ?_, hbel2⟩
            · rw [HM.out, List.append_assoc]
              rfl
            · rw [List.length_append, flat4_app]
              unfold flat4 cells4
              simp only [List.flatMap_cons, List.flatMap_nil, List.append_nil, t4]
              exact hE2
          case measure => simp [intOf]; omega
        · rw [hlf (by simp [h1]), ← h0] at hm
          have t4 : to4 (k, k, z) = -1 := by unfold to4; rw [if_pos rfl]
          have hcl : clsOf ((k, k, z) :: items xs (k + 1) b) = z :: clsOf (items xs (k + 1) b) := rfl
          rw [hcl, dirs] at hm
          have HO := Lib.hid hown
          clear hit hlf hge hmk h1 h0 hcl
          by_cases hz12 : z = 1 ∨ z = 2
          · rw [if_pos hz12] at hm
            have hm : R = acc ++ ((k, k, z), z) :: (items xs (k + 1) b).zip (dirs z (clsOf (items xs (k + 1) b))) := hm
            have HM := Lib.hid hm
            clear hm
            rcases hz12 with rfl | rfl
            · skip
              go_wp2_with fail
              refine (HC.out).mono ?_
              rintro e wq ⟨rfl, rfl⟩
              go_wp2_with (at_builtin; first
                | (refine wpList_append_lies _ rfl _ _ 75 rfl T 78 j0 (.agg #[.int .i64 0, .int .i64 0, .int .i64 0, .int .i64 0]) 4 32 Try.underlying75 hj hz0 hz1 hz2 rfl (by decide) _ _ _ rfl ((hown.alloc _).alloc _) ⟨wr.heap.size + 1, 0, none⟩ 1 1 [.int .i64 k, .int .i64 (-1), .int .i64 1, .int .i64 1] rfl rfl (cell_four_new2 _ _ _ _ _ _ _) (by intro u hu; simp at hu; rcases hu with rfl | rfl | rfl <;> rfl) (by decide) (by unfold maxLen; omega) (by omega) (by have := HBEL.out.size; have := HT.out; simp; omega) _ rfl ?_
                   intro g cap w2 hE2 hg2 hg3 hg4
                   have hbel2 : Below T w w2 := (((HBEL.out.alloc (by have := HBEL.out.size; have := HT.out; omega) _).alloc (by have := HBEL.out.size; have := HT.out; simp; omega) _).grown hg2 (by have := HBEL.out.size; have := HT.out; simp; omega) (fun j e => (HO.out.lt j e).1)) ))
              go_roundw
              case rel =>
                refine ⟨k + 1, 1, acc ++ [((k, k, 1), 1)], by omega, by omega, by go_num, rfl, ?_, ?_, hbel2⟩
                · rw [HM.out, List.append_assoc]
                  rfl
                · rw [List.length_append, flat4_app]
                  unfold flat4 cells4
                  simp only [List.flatMap_cons, List.flatMap_nil, List.append_nil, t4]
                  exact hE2
              case measure => simp [intOf]; omega
            · skip
              go_wp2_with fail
              refine (HC.out).mono ?_
              rintro e wq ⟨rfl, rfl⟩
              go_wp2_with (at_builtin; first
                | (refine wpList_append_lies _ rfl _ _ 75 rfl T 78 j0 (.agg #[.int .i64 0, .int .i64 0, .int .i64 0, .int .i64 0]) 4 32 Try.underlying75 hj hz0 hz1 hz2 rfl (by decide) _ _ _ rfl ((hown.alloc _).alloc _) ⟨wr.heap.size + 1, 0, none⟩ 1 1 [.int .i64 k, .int .i64 (-1), .int .i64 2, .int .i64 2] rfl rfl (cell_four_new2 _ _ _ _ _ _ _) (by intro u hu; simp at hu; rcases hu with rfl | rfl | rfl <;> rfl) (by decide) (by unfold maxLen; omega) (by omega) (by have := HBEL.out.size; have := HT.out; simp; omega) _ rfl ?_
                   intro g cap w2 hE2 hg2 hg3 hg4
                   have hbel2 : Below T w w2 := (((HBEL.out.alloc (by have := HBEL.out.size; have := HT.out; omega) _).alloc (by have := HBEL.out.size; have := HT.out; simp; omega) _).grown hg2 (by have := HBEL.out.size; have := HT.out; simp; omega) (fun j e => (HO.out.lt j e).1)) ))
              go_roundw
              case rel =>
                refine ⟨k + 1, 2, acc ++ [((k, k, 2), 2)], by omega, by omega, by go_num, rfl, ?_, ?_, hbel2⟩
                · rw [HM.out, List.append_assoc]
                  rfl
                · rw [List.length_append, flat4_app]
                  unfold flat4 cells4
                  simp only [List.flatMap_cons, List.flatMap_nil, List.append_nil, t4]
                  exact hE2
              case measure => simp [intOf]; omega
          · rw [if_neg hz12] at hm
            by_cases hz3 : z = 3
            · rw [if_pos hz3] at hm
              subst hz3
              have hm : R = acc ++ ((k, k, 3), last) :: (items xs (k + 1) b).zip (dirs last (clsOf (items xs (k + 1) b))) := hm
              have HM := Lib.hid hm
              clear hm hz12
              go_wp2_with fail
              refine (HC.out).mono ?_
              rintro e wq ⟨rfl, rfl⟩
              go_wp2_with (at_builtin; first
                | (refine wpList_append_lies _ rfl _ _ 75 rfl T 78 j0 (.agg #[.int .i64 0, .int .i64 0, .int .i64 0, .int .i64 0]) 4 32 Try.underlying75 hj hz0 hz1 hz2 rfl (by decide) _ _ _ rfl ((hown.alloc _).alloc _) ⟨wr.heap.size + 1, 0, none⟩ 1 1 [.int .i64 k, .int .i64 (-1), .int .i64 3, .int .i64 last] rfl rfl (cell_four_new2 _ _ _ _ _ _ _) (by intro u hu; simp at hu; rcases hu with rfl | rfl | rfl | rfl <;> rfl) (by decide) (by unfold maxLen; omega) (by omega) (by have := HBEL.out.size; have := HT.out; simp; omega) _ rfl ?_
                   intro g cap w2 hE2 hg2 hg3 hg4
                   have hbel2 : Below T w w2 := (((HBEL.out.alloc (by have := HBEL.out.size; have := HT.out; omega) _).alloc (by have := HBEL.out.size; have := HT.out; simp; omega) _).grown hg2 (by have := HBEL.out.size; have := HT.out; simp; omega) (fun j e => (HO.out.lt j e).1)) ))
              go_roundw
              case rel =>
                refine ⟨k + 1, last, acc ++ [((k, k, 3), last)], by omega, by omega, by go_num, rfl, ?_, ?_, hbel2⟩
                · rw [HM.out, List.append_assoc]
                  rfl
                · rw [List.length_append, flat4_app]
                  unfold flat4 cells4
                  simp only [List.flatMap_cons, List.flatMap_nil, List.append_nil, t4]
                  exact hE2
              case measure => simp [intOf]; omega
            · obtain rfl : z = 0 := by omega
              rw [if_neg hz3] at hm
              have hm : R = acc ++ ((k, k, 0), 0) :: (items xs (k + 1) b).zip (dirs last (clsOf (items xs (k + 1) b))) := hm
              have HM := Lib.hid hm
              clear hm hz12 hz3
              go_wp2_with fail
              refine (HC.out).mono ?_
              rintro e wq ⟨rfl, rfl⟩
              go_wp2_with (at_builtin; first
                | (refine wpList_append_lies _ rfl _ _ 75 rfl T 78 j0 (.agg #[.int .i64 0, .int .i64 0, .int .i64 0, .int .i64 0]) 4 32 Try.underlying75 hj hz0 hz1 hz2 rfl (by decide) _ _ _ rfl ((hown.alloc _).alloc _) ⟨wr.heap.size + 1, 0, none⟩ 1 1 [.int .i64 k, .int .i64 (-1), .int .i64 0, .int .i64 0] rfl rfl (cell_four_new2 _ _ _ _ _ _ _) (by intro u hu; simp at hu; rcases hu with rfl | rfl | rfl <;> rfl) (by decide) (by unfold maxLen; omega) (by omega) (by have := HBEL.out.size; have := HT.out; simp; omega) _ rfl ?_
                   intro g cap w2 hE2 hg2 hg3 hg4
                   have hbel2 : Below T w w2 := (((HBEL.out.alloc (by have := HBEL.out.size; have := HT.out; omega) _).alloc (by have := HBEL.out.size; have := HT.out; simp; omega) _).grown hg2 (by have := HBEL.out.size; have := HT.out; simp; omega) (fun j e => (HO.out.lt j e).1)) ))
              go_roundw
              case rel =>
                refine ⟨k + 1, last, acc ++ [((k, k, 0), 0)], by omega, by omega, by go_num, rfl, ?_, ?_, hbel2⟩
                · rw [HM.out, List.append_assoc]
                  rfl
                · rw [List.length_append, flat4_app]
                  unfold flat4 cells4
                  simp only [List.flatMap_cons, List.flatMap_nil, List.append_nil, t4]
                  exact hE2
              case measure => simp [intOf]; omega
      · rw [items_nil (by omega)] at hm
        have hm : R = acc := by rw [hm]; simp
        subst hm
        have HO := Lib.hid hown
        have HBEL := Lib.hid hbel
        clear hown hbel
        go_wp2
        go_ret
        exact ⟨_, rfl, HO.out, HBEL.out⟩
end Go.Proofs.Ytgefbagojghmeaa
