/-
  bidi.resolve: the levels of items.
-/
import Derived.Test.YtgefbagojghmeaaBi4
import Derived.Deep.OwnRows
namespace Go.Proofs.Ytgefbagojghmeaa
open Go.RowKit

/-- Two rows of numbers of the call's own. -/
structure RsW (T gl gd : Nat) (w wr : World) (L D : List Int) : Prop where
  hL : wr.heap[gl]? = some (.cells (L.map (Value.int .i64)).toArray 3 (0, 0))
  hD : wr.heap[gd]? = some (.cells (D.map (Value.int .i64)).toArray 3 (0, 0))
  hbel : Below T w wr
section
variable {T gl gd : Nat} {w wr : World} {L D : List Int}
theorem RsW.lt (h : RsW T gl gd w wr L D) : gl < wr.heap.size ∧ gd < wr.heap.size := ⟨(Array.getElem?_eq_some_iff.1 h.hL).1, (Array.getElem?_eq_some_iff.1 h.hD).1⟩
theorem RsW.alloc (h : RsW T gl gd w wr L D) (hT : T ≤ gl) (o : Obj) : RsW T gl gd w (wr.alloc o) L D :=
  ⟨(Lib.alloc_old wr o gl h.lt.1).trans h.hL, (Lib.alloc_old wr o gd h.lt.2).trans h.hD, h.hbel.alloc (by have := h.lt.1; omega) o⟩
theorem RsW.cL (h : RsW T gl gd w wr L D) {i : Nat} (hi : i < L.length) : wr.cell? ⟨gl, i, none⟩ = some (.int .i64 (L.getD i 0)) := by
  rw [Lib.cell_of_heap h.hL]
  simp [List.getD, hi]
theorem RsW.cD (h : RsW T gl gd w wr L D) {i : Nat} (hi : i < D.length) : wr.cell? ⟨gd, i, none⟩ = some (.int .i64 (D.getD i 0)) := by
  rw [Lib.cell_of_heap h.hD]
  simp [List.getD, hi]
theorem RsW.fL (h : RsW T gl gd w wr L D) (i : Nat) : wr.frozen? ⟨gl, i, none⟩ = false := Lib.frozen_of_heap h.hL i
theorem RsW.fD (h : RsW T gl gd w wr L D) (i : Nat) : wr.frozen? ⟨gd, i, none⟩ = false := Lib.frozen_of_heap h.hD i
theorem RsW.setL (h : RsW T gl gd w wr L D) (hne : gl ≠ gd) (hT : T ≤ gl) (i : Nat) (x : Int) : RsW T gl gd w (wr.setCell ⟨gl, i, none⟩ (.int .i64 x)) (L.set i x) D := by
  refine ⟨?_, ?_, h.hbel.setCell (p := ⟨gl, i, none⟩) hT _⟩
  · rw [Lib.heap_setCell_same (i := i) h.hL, List.map_set]
    simp
  · rw [Below.heap_setCell _ _ _ _ (by show gd ≠ gl; omega)]
    exact h.hD
theorem RsW.setD (h : RsW T gl gd w wr L D) (hne : gl ≠ gd) (hT : T ≤ gd) (i : Nat) (x : Int) : RsW T gl gd w (wr.setCell ⟨gd, i, none⟩ (.int .i64 x)) L (D.set i x) := by
  refine ⟨?_, ?_, h.hbel.setCell (p := ⟨gd, i, none⟩) hT _⟩
  · rw [Below.heap_setCell _ _ _ _ (by show gl ≠ gd; omega)]
    exact h.hL
  · rw [Lib.heap_setCell_same (i := i) h.hD, List.map_set]
    simp
theorem RsW.drew (h : RsW T gl gd w wr L D) : RsW T gl gd w wr.drew L D := ⟨h.hL, h.hD, h.hbel.drew⟩
theorem RsW.swap (h : RsW T gl gd w wr L D) : RsW T gd gl w wr D L := ⟨h.hD, h.hL, h.hbel⟩
end
theorem made_zero (n : Nat) : madeCells #[.int .i64 0] n = ((List.replicate n (0 : Int)).map (Value.int .i64)).toArray := by
  apply Array.toList_inj.1
  rw [List.map_replicate, toList_madeCells_one]
theorem made_two {T n : Nat} {w : World} (hT : T = w.heap.size) : RsW T w.heap.size (w.heap.size + 1) w ((w.alloc (.cells (madeCells #[.int .i64 0] n) 3)).alloc (.cells (madeCells #[.int .i64 0] n) 3)) (List.replicate n 0) (List.replicate n 0) := by
  rw [made_zero]
  refine ⟨?_, ?_, ?_⟩
  · rw [Lib.alloc_old _ _ _ (by simp)]
    exact heap_alloc_new w _
  · have := heap_alloc_new (w.alloc (.cells ((List.replicate n (0 : Int)).map (Value.int .i64)).toArray 3)) (.cells ((List.replicate n (0 : Int)).map (Value.int .i64)).toArray 3)
    rw [show (w.alloc (.cells ((List.replicate n (0 : Int)).map (Value.int .i64)).toArray 3)).heap.size = w.heap.size + 1 by simp] at this
    exact this
  · rw [hT]
    exact ((Below.refl _ _).alloc (Nat.le_refl _) _).alloc (by simp) _

set_option maxRecDepth 100000 in
set_option maxHeartbeats 8000000 in
theorem resolve_any (v : Value) (l : List (Nat × Nat × Int)) (B : Nat) (e : Nat) (w : World) (hv : IsItems w B v l) (hB : B ≤ w.heap.size) (hl : l.length ≤ 10000) (he : e ≤ 1000) (hc : ∀ x ∈ l, 0 ≤ x.2.2 ∧ x.2.2 ≤ 3) :
    Calls Try.prog 52 #[v, .int .i64 e] w fun x w' => ∃ r, x = .returned r ∧ w'.ownsRow w.heap.size 3 1 r l.length ((itLv e l).map (Value.int .i64)) ∧ Below w.heap.size w w' := by
  obtain ⟨ao, ca, rfl, hcells⟩ := hv
  obtain ⟨n, hn⟩ : ∃ n, n = l.length := ⟨_, rfl⟩
  rw [← hn] at hcells hl
  rw [← hn]
  have hmk := run_make_row' (P := Try.prog) 24 3 (.int .i64 0) 8 Try.underlying24 Try.infoInt rfl .i64 .i64 n (by omega) (by omega)
  have e0 : (0 : Int) ≤ (e : Int) := by omega
  have hbo := bown_any (e : Int) e0
  have hst := fun d hd W => bstrong_any d (e : Int) e0 (by omega) hd W
  have hso := own_or (e : Int)
  unfold itLv
  have hcs : ∀ c ∈ l.map (fun x => x.2.2), 0 ≤ c ∧ c ≤ 3 := by
    intro c hm
    obtain ⟨x, hx, rfl⟩ := List.mem_map.1 hm
    exact hc x hx
  have hcsl : (l.map fun x => x.2.2).length = n := by rw [List.length_map, hn]
  have hlx : ∀ i x, l[i]? = some x → (l.map fun x => x.2.2).getD i 0 = x.2.2 := by
    intro i x hx
    simp [List.getD, hx]
  obtain ⟨cs, hcsd⟩ : ∃ cs, l.map (fun x => x.2.2) = cs := ⟨_, rfl⟩
  rw [hcsd] at hcs hcsl hlx
  rw [hcsd]
  have hS := St.start (e : Int) cs
  have hPl := p1_len (e : Int) cs (own e)
  have hDl := dirs_len cs (own e)
  have hFl := lvls_len (e : Int) cs (own e)
  obtain ⟨P, hP⟩ : ∃ P, p1 (e : Int) (own e) cs = P := ⟨_, rfl⟩
  obtain ⟨D, hD⟩ : ∃ D, dirs (own e) cs = D := ⟨_, rfl⟩
  obtain ⟨F, hF⟩ : ∃ F, lvls (e : Int) (own e) cs = F := ⟨_, rfl⟩
  rw [hP] at hS hPl
  rw [hD] at hS hDl
  rw [hF] at hS hFl
  rw [hF]
  rw [hcsl] at hPl hDl hFl
  obtain ⟨O, hO⟩ : ∃ O, own (e : Int) = O := ⟨_, rfl⟩
  simp only [hO] at hbo
  rw [hO] at hS hso
  have HC := Lib.hid hcells
  have HN := Lib.hid hn
  have HR := Lib.hid hcs
  have HLX := Lib.hid hlx
  have HS := Lib.hid hS
  have HPL := Lib.hid hPl
  have HDL := Lib.hid hDl
  have HFL := Lib.hid hFl
  have HCL := Lib.hid hcsl
  have HBO := Lib.hid hbo
  have HST := Lib.hid hst
  have HSO := Lib.hid hso
  have HO := Lib.hid hO
  obtain ⟨T, hT⟩ : ∃ T, T = w.heap.size := ⟨_, rfl⟩
  have HT := Lib.hid hT
  rw [← hT]
  clear hcells hn hc hcs hlx hS hPl hDl hFl hcsl hbo hst hso hO hP hD hF hcsd hT
  go_enter Try.func52, Try.ntmps52
  go_wp2
  go_region
  obtain ⟨gl, hgl⟩ : ∃ g, w.heap.size = g := ⟨_, rfl⟩
  obtain ⟨gd, hgd⟩ : ∃ g, w.heap.size + 1 = g := ⟨_, rfl⟩
  have hRS : RsW T gl gd w ((w.alloc (.cells (madeCells #[.int .i64 0] n) 3)).alloc (.cells (madeCells #[.int .i64 0] n) 3)) (List.replicate n 0) (List.replicate n 0) := by
    rw [← hgl, ← hgd]
    exact made_two HT.out
  have hne : gl ≠ gd := by omega
  rw [hgd, hgl]
  have hTl : T ≤ gl := by have := HT.out; omega
  have hTd : T ≤ gd := by have := HT.out; omega
  rotate_left
  obtain ⟨gd, hgd⟩ : ∃ g, w.heap.size = g := ⟨_, rfl⟩
  obtain ⟨gl, hgl⟩ : ∃ g, w.heap.size + 1 = g := ⟨_, rfl⟩
  have hRS : RsW T gl gd w ((w.alloc (.cells (madeCells #[.int .i64 0] n) 3)).alloc (.cells (madeCells #[.int .i64 0] n) 3)) (List.replicate n 0) (List.replicate n 0) := by
    rw [← hgl, ← hgd]
    exact (made_two HT.out).swap
  have hne : gl ≠ gd := by omega
  rw [hgl, hgd]
  have hTl : T ≤ gl := by have := HT.out; omega
  have hTd : T ≤ gd := by have := HT.out; omega
  all_goals
    clear hgl hgd
    generalize ((w.alloc (.cells (madeCells #[.int .i64 0] n) 3)).alloc (.cells (madeCells #[.int .i64 0] n) 3)) = w0 at hRS ⊢
    have HRS := Lib.hid hRS
    clear hRS
    go_wp2_with fail
    refine (HBO.out _).mono ?_
    rintro ex wq ⟨rfl, rfl⟩
    go_wp2
    go_loopw [7, 8, 9, 25] (fun lv _ _ i wr => ∃ (k : Nat) (last : Int), k ≤ n ∧ i = .int .i64 k ∧ lv = .int .i64 last ∧ St e cs D P F k last ∧ RsW T gl gd w wr (half P k) (half D k)) (fun _ _ _ i _ => n - (intOf i).toNat)
    case atStart =>
      refine ⟨0, O, Nat.zero_le _, rfl, rfl, HS.out, ?_⟩
      have := HRS.out.drew
      unfold half
      rw [HPL.out, HDL.out]
      exact this
    case round =>
      obtain ⟨k, last, hk, rfl, rfl, hst, hrs⟩ := hrel
      by_cases hlt : k < n
      · obtain ⟨b, o, rfl, hbB, hcl⟩ := HC.out (by omega)
        have hx : l[k]? = some (l[k]'(by have := HN.out; omega)) := List.getElem?_eq_getElem _
        obtain ⟨x, hx'⟩ : ∃ x, l[k]'(by have := HN.out; omega) = x := ⟨_, rfl⟩
        rw [hx'] at hx
        obtain ⟨d0, d1, d2⟩ := hcl k x hx
        have c0 := (hrs.hbel.cell (p := ⟨b, o + k * 3, none⟩) (by show b < T; have := HT.out; omega)).trans d0
        have c1 := (hrs.hbel.cell (p := ⟨b, o + k * 3 + 1, none⟩) (by show b < T; have := HT.out; omega)).trans d1
        have c2 := (hrs.hbel.cell (p := ⟨b, o + k * 3 + 2, none⟩) (by show b < T; have := HT.out; omega)).trans d2
        have hcx := HLX.out k x hx
        have hr := getD_range HR.out (i := k) (by rw [HCL.out]; exact hlt)
        obtain ⟨x0, x1, x2⟩ := x
        dsimp only at c0 c1 c2 hcx
        have k0 : (0 : Int) ≤ (k : Int) := by omega
        have k1 : (k : Int) < (n : Int) := by omega
        have hPk := half_set (P := P) (k := k) (by rw [HPL.out]; exact hlt)
        have hDk := half_set (P := D) (k := k) (by rw [HDL.out]; exact hlt)
        have hPz := half_zero (P := P) (k := k) (by rw [HPL.out]; exact hlt)
        have hDz := half_zero (P := D) (k := k) (by rw [HDL.out]; exact hlt)
        have hlP : (half P k).length = n := by unfold half; rw [List.length_append, List.length_take, List.length_replicate, HPL.out]; omega
        have hlD : (half D k).length = n := by unfold half; rw [List.length_append, List.length_take, List.length_replicate, HDL.out]; omega
        clear hcl d0 d1 d2 hx hx'
        rw [hcx] at hr
        have hkc : k < cs.length := by rw [HCL.out]; exact hlt
        have hrW := hrs.alloc hTl (.cells #[.int .i64 x0, .int .i64 x1, .int .i64 x2] 73)
        have HRSK := Lib.hid hrs
        clear hrs
        by_cases h1 : x2 = 1 ∨ x2 = 2
        · rw [← hcx] at h1
          obtain ⟨s1, s2, _, s4⟩ := hst.strong hkc h1
          rw [hcx] at s1 s2 s4 h1
          rw [s2] at hPk
          rw [s1] at hDk
          have g1 := hrW.cL (i := k) (by omega)
          have g2 := hrW.fL k
          have r1 := hrW.setL hne hTl k (strong e x2)
          have g5 := r1.cD (i := k) (by omega)
          have g6 := r1.fD k
          have r2 := r1.setD hne hTd k x2
          rw [hPk, hDk] at r2
          have hs1 := HST.out x2 h1
          have HS1 := Lib.hid hs1
          have HR2 := Lib.hid r2
          have HS4 := Lib.hid s4
          clear hPk hDk hPz hDz hst hcx hr s1 s2 s4 hs1 r1 r2 hrW
          rcases h1 with rfl | rfl
          · go_wp2_with fail
            refine (HS1.out _).mono ?_
            rintro ex wq ⟨rfl, rfl⟩
            go_wp2
            go_roundw
            case rel => exact ⟨k + 1, 1, by omega, by go_num, rfl, HS4.out, HR2.out⟩
            case measure => simp [intOf]; omega
          · go_wp2_with fail
            refine (HS1.out _).mono ?_
            rintro ex wq ⟨rfl, rfl⟩
            go_wp2
            go_roundw
            case rel => exact ⟨k + 1, 2, by omega, by go_num, rfl, HS4.out, HR2.out⟩
            case measure => simp [intOf]; omega
        · by_cases h3 : x2 = 3
          · rw [← hcx] at h3
            obtain ⟨s1, s2, _, s4⟩ := hst.num hkc h3
            rw [hcx] at h3
            have hlast := hst.2.2.2
            rw [s2] at hPk
            rw [s1] at hDk
            subst h3
            have g1 := hrW.cL (i := k) (by omega)
            have g2 := hrW.fL k
            have r1 := hrW.setL hne hTl k (strong e 1)
            have g5 := r1.cD (i := k) (by omega)
            have g6 := r1.fD k
            have r2 := r1.setD hne hTd k 1
            have HS1 := Lib.hid (HST.out 1 (.inl rfl))
            have HS4 := Lib.hid s4
            clear hPz hDz hst hcx hr s1 s2 s4 r1 hrW h1
            rcases hlast with rfl | rfl
            · rw [if_neg (by decide)] at hPk
              rw [hPk, hDk] at r2
              have HR2 := Lib.hid r2
              clear hPk hDk r2
              go_wp2_with fail
              refine (HS1.out _).mono ?_
              rintro ex wq ⟨rfl, rfl⟩
              go_wp2
              go_roundw
              case rel => exact ⟨k + 1, 1, by omega, by go_num, rfl, HS4.out, HR2.out⟩
              case measure => simp [intOf]; omega
            · rw [if_pos rfl] at hPk
              have g7 := r2.cL (i := k) (by rw [List.length_set]; omega)
              have g8 := r2.fL k
              have r3 := r2.setL hne hTl k (e + 2 - e % 2)
              have g9 := r3.cD (i := k) (by rw [List.length_set]; omega)
              have g10 := r3.fD k
              have r4 := r3.setD hne hTd k 2
              rw [List.set_set, List.set_set, hPk, hDk] at r4
              have HR4 := Lib.hid r4
              clear hPk hDk r2 r3 r4
              go_wp2_with fail
              refine (HS1.out _).mono ?_
              rintro ex wq ⟨rfl, rfl⟩
              go_wp2
              go_roundw
              case rel => exact ⟨k + 1, 2, by omega, by go_num, rfl, HS4.out, HR4.out⟩
              case measure => simp [intOf]; omega
          · have h00 : x2 = 0 := by omega
            rw [← hcx] at h00
            obtain ⟨s1, s2, _, s4⟩ := hst.neut hkc h00
            rw [hcx] at h00
            subst h00
            rw [hPz s2, hDz s1] at hrW
            have HRW := Lib.hid hrW
            have HS4 := Lib.hid s4
            clear hPk hDk hPz hDz hst hcx hr s1 s2 s4 hrW h1 h3
            go_wp2
            go_roundw
            case rel => exact ⟨k + 1, last, by omega, by go_num, rfl, HS4.out, HRW.out⟩
            case measure => simp [intOf]; omega
      · have k1 : (n : Int) ≤ (k : Int) := by omega
        have hkn : k = n := by omega
        have hfull : ∀ (X : List Int), X.length = n → half X k = X := by
          intro X hX
          unfold half
          rw [hX, hkn, Nat.sub_self, ← hX, List.take_length]
          simp
        rw [hfull P HPL.out, hfull D HDL.out] at hrs
        have HRS2 := Lib.hid hrs
        have hml : ∀ q, q ≤ n → (mixed F P q).length = n := by
          intro q hq
          unfold mixed
          rw [List.length_append, List.length_take, List.length_drop, HFL.out, HPL.out]
          omega
        clear hrs hst hfull hkn
        go_wp2
        go_loopw [10, 11, 12, 13, 14] (fun iv _ _ _ _ wr2 => ∃ (i : Nat) (last : Int), i ≤ n ∧ iv = .int .i64 i ∧ St e cs D P F i last ∧ RsW T gl gd w wr2 (mixed F P i) D ∧ (i = 0 → last = O) ∧ (0 < i → D.getD (i - 1) 0 ≠ 0 → D.getD (i - 1) 0 = last) ∧ (i = 0 ∨ D.getD (i - 1) 0 ≠ 0 ∨ n ≤ i ∨ D.getD i 0 ≠ 0)) (fun iv _ _ _ _ _ => n - (intOf iv).toNat)
        case atStart => exact ⟨0, O, Nat.zero_le _, rfl, HS.out, by unfold mixed; simpa using HRS2.out, fun _ => rfl, fun h => absurd h (by omega), .inl rfl⟩
        case round =>
          obtain ⟨i, last, hi, rfl, hst, hrs, hl0, hl1, hl2⟩ := hrel
          by_cases hlt : i < n
          · have hic : i < cs.length := by rw [HCL.out]; exact hlt
            have gD := hrs.cD (i := i) (by rw [HDL.out]; exact hlt)
            have hr := getD_range HR.out (i := i) hic
            have i0 : (0 : Int) ≤ (i : Int) := by omega
            have i1 : (i : Int) < (n : Int) := by omega
            by_cases hz : D.getD i 0 = 0
            · rw [hz] at gD
              go_wp2
              go_loopw [11] (fun kv wr3 => ∃ m : Nat, i ≤ m ∧ m ≤ n ∧ kv = .int .i64 m ∧ (∀ j, i ≤ j → j < m → D.getD j 0 = 0) ∧ wr = wr3) (fun kv _ => n - (intOf kv).toNat)
              case atStart => exact ⟨i, Nat.le_refl _, hi, rfl, fun j h1 h2 => by omega, rfl⟩
              case round =>
                obtain ⟨m, him, hmn, rfl, hzz, rfl⟩ := hrel
                by_cases hmz : m < n ∧ D.getD m 0 = 0
                · have gm := hrs.cD (i := m) (by rw [HDL.out]; exact hmz.1)
                  rw [hmz.2] at gm
                  have m0 : (0 : Int) ≤ (m : Int) := by omega
                  have m1 : (m : Int) < (n : Int) := by omega
                  have HZZ : ∀ j, i ≤ j → j < m + 1 → D.getD j 0 = 0 := fun j h1 h2 => by
                    by_cases hj : j = m
                    · rw [hj]; exact hmz.2
                    · exact hzz j h1 (by omega)
                  have HZ2 := Lib.hid HZZ
                  clear HZZ hzz hst hrs hl0 hl1 hl2 hz hmz hr
                  go_wp2
                  go_roundw
                  case rel => exact ⟨m + 1, by omega, by omega, by go_num, HZ2.out, trivial⟩
                  case measure => simp [intOf]; omega
                · have hend : m = n ∨ D.getD m 0 ≠ 0 := by
                    by_cases hm : m < n
                    · exact .inr fun h => hmz ⟨hm, h⟩
                    · exact .inl (by omega)
                  have hlast := hst.2.2.2
                  have him2 : i < m := by
                    by_cases h : i = m
                    · rcases hend with h2 | h2
                      · omega
                      · exact absurd (h ▸ hz) h2
                    · omega
                  have hrun := fun q h1 h2 => hst.run HR.out (m := m) (by rw [HCL.out]; exact hmn) hzz (by rw [HCL.out]; exact hend) (q := q) h1 h2
                  have hgo := hst.go HR.out (m := m) (by rw [HCL.out]; exact hmn) m (by omega) (Nat.le_refl _) hzz
                  have hfin : St e cs D P F m last ∧ m ≠ 0 ∧ D.getD (m - 1) 0 = 0 ∧ (m = 0 ∨ D.getD (m - 1) 0 ≠ 0 ∨ n ≤ m ∨ D.getD m 0 ≠ 0) := ⟨hgo, by omega, hzz (m - 1) (by omega) (by omega), by
                    rcases hend with h | h
                    · exact .inr (.inr (.inl (by omega)))
                    · exact .inr (.inr (.inr h))⟩
                  rw [HO.out] at hrun
                  obtain ⟨X, hX⟩ : ∃ X, (if m < cs.length then D.getD m 0 else O) = X := ⟨_, rfl⟩
                  rw [hX] at hrun
                  clear hgo hmz hr
                  by_cases hi0 : i = 0
                  · by_cases hm : m < n
                    · by_cases hlx : last = X
                      · obtain rfl : i = 0 := hi0
                        obtain rfl := hl0 rfl
                        have gm := hrs.cD (i := m) (by rw [HDL.out]; omega)
                        have hdm : D.getD m 0 = X := by rw [← hX, if_pos (by rw [HCL.out]; exact hm)]
                        rw [hdm] at gm hend
                        have hX0 : (X == 0) = false := by
                          rcases hend with h | h
                          · omega
                          · simp [h]
                        have m1 : (m : Int) < (n : Int) := by omega
                        have m0 : (0 : Int) ≤ (m : Int) := by omega
                        simp only [if_pos hlx] at hrun
                        have HFIN := Lib.hid hfin
                        have HRUN := Lib.hid hrun
                        have HRS3 := Lib.hid hrs
                        have hsl := HST.out last hlast
                        have HSL := Lib.hid hsl
                        have HLX2 := Lib.hid hlx
                        clear hfin hrun hrs hl0 hl1 hl2 hst hzz hsl hX hend hlx hdm
                        obtain rfl := HLX2.out
                        go_wp2_with fail
                        refine (HBO.out _).mono ?_
                        rintro ex wq ⟨rfl, rfl⟩
                        go_wp2_with fail
                        refine (HBO.out _).mono ?_
                        rintro ex wq ⟨rfl, rfl⟩
                        go_wp2_with fail
                        refine (HSL.out _).mono ?_
                        rintro ex wq ⟨rfl, rfl⟩
                        go_wp2
                        go_loopw [10] (fun iv wr4 => ∃ q : Nat, 0 ≤ q ∧ q ≤ m ∧ iv = .int .i64 q ∧ RsW T gl gd w wr4 (mixed F P q) D) (fun iv _ => m - (intOf iv).toNat)
                        case atStart => exact ⟨0, Nat.le_refl _, by omega, rfl, HRS3.out⟩
                        case round =>
                          obtain ⟨q, hq0, hqm, rfl, hrq⟩ := hrel
                          by_cases hq : q < m
                          · have g1 := hrq.cL (i := q) (by rw [hml q (by omega)]; omega)
                            have g2 := hrq.fL q
                            have r1 := hrq.setL hne hTl q (F.getD q 0)
                            rw [mixed_set (by rw [HFL.out]; omega) (by rw [HPL.out]; omega), HRUN.out q (by omega) hq] at r1
                            have q0 : (0 : Int) ≤ (q : Int) := by omega
                            have q1 : (q : Int) < (m : Int) := by omega
                            have q2 : (q : Int) < (n : Int) := by omega
                            have HR1 := Lib.hid r1
                            clear r1 hrq
                            go_wp2
                            go_roundw
                            case rel => exact ⟨q + 1, by omega, by omega, by go_num, HR1.out⟩
                            case measure => simp [intOf]; omega
                          · have hqe : q = m := by omega
                            subst hqe
                            have HRQ := Lib.hid hrq
                            clear hrq
                            go_wp2
                            go_roundw
                            case rel => exact ⟨q, last, by omega, rfl, HFIN.out.1, HRQ.out, fun h => absurd h HFIN.out.2.1, fun _ h => absurd HFIN.out.2.2.1 h, HFIN.out.2.2.2⟩
                            case measure => simp [intOf]; omega
                      · obtain rfl : i = 0 := hi0
                        obtain rfl := hl0 rfl
                        have gm := hrs.cD (i := m) (by rw [HDL.out]; omega)
                        have hdm : D.getD m 0 = X := by rw [← hX, if_pos (by rw [HCL.out]; exact hm)]
                        rw [hdm] at gm hend
                        have hX0 : (X == 0) = false := by
                          rcases hend with h | h
                          · omega
                          · simp [h]
                        have m1 : (m : Int) < (n : Int) := by omega
                        have m0 : (0 : Int) ≤ (m : Int) := by omega
                        simp only [if_neg hlx] at hrun
                        have hlb : (last == X) = false := by simp [hlx]
                        have HFIN := Lib.hid hfin
                        have HRUN := Lib.hid hrun
                        have HRS3 := Lib.hid hrs
                        have hsl := HST.out last hlast
                        have HSL := Lib.hid hsl
                        have HLX2 := Lib.hid hlx
                        clear hfin hrun hrs hl0 hl1 hl2 hst hzz hsl hX hend hlx hdm
                        go_wp2_with fail
                        refine (HBO.out _).mono ?_
                        rintro ex wq ⟨rfl, rfl⟩
                        go_wp2_with fail
                        refine (HBO.out _).mono ?_
                        rintro ex wq ⟨rfl, rfl⟩
                        go_wp2
                        go_loopw [10] (fun iv wr4 => ∃ q : Nat, 0 ≤ q ∧ q ≤ m ∧ iv = .int .i64 q ∧ RsW T gl gd w wr4 (mixed F P q) D) (fun iv _ => m - (intOf iv).toNat)
                        case atStart => exact ⟨0, Nat.le_refl _, by omega, rfl, HRS3.out⟩
                        case round =>
                          obtain ⟨q, hq0, hqm, rfl, hrq⟩ := hrel
                          by_cases hq : q < m
                          · have g1 := hrq.cL (i := q) (by rw [hml q (by omega)]; omega)
                            have g2 := hrq.fL q
                            have r1 := hrq.setL hne hTl q (F.getD q 0)
                            rw [mixed_set (by rw [HFL.out]; omega) (by rw [HPL.out]; omega), HRUN.out q (by omega) hq] at r1
                            have q0 : (0 : Int) ≤ (q : Int) := by omega
                            have q1 : (q : Int) < (m : Int) := by omega
                            have q2 : (q : Int) < (n : Int) := by omega
                            have HR1 := Lib.hid r1
                            clear r1 hrq
                            go_wp2
                            go_roundw
                            case rel => exact ⟨q + 1, by omega, by omega, by go_num, HR1.out⟩
                            case measure => simp [intOf]; omega
                          · have hqe : q = m := by omega
                            subst hqe
                            have HRQ := Lib.hid hrq
                            clear hrq
                            go_wp2
                            go_roundw
                            case rel => exact ⟨q, last, by omega, rfl, HFIN.out.1, HRQ.out, fun h => absurd h HFIN.out.2.1, fun _ h => absurd HFIN.out.2.2.1 h, HFIN.out.2.2.2⟩
                            case measure => simp [intOf]; omega
                    · by_cases hlx : last = X
                      · obtain rfl : i = 0 := hi0
                        obtain rfl := hl0 rfl
                        have hmO : last = X := by rw [← hX, if_neg (by rw [HCL.out]; exact hm)]
                        have m1 : (n : Int) ≤ (m : Int) := by omega
                        have m0 : (0 : Int) ≤ (m : Int) := by omega
                        simp only [if_pos hlx] at hrun
                        have HFIN := Lib.hid hfin
                        have HRUN := Lib.hid hrun
                        have HRS3 := Lib.hid hrs
                        have hsl := HST.out last hlast
                        have HSL := Lib.hid hsl
                        have HLX2 := Lib.hid hlx
                        clear hfin hrun hrs hl0 hl1 hl2 hst hzz hsl hX hend hlx
                        subst hmO
                        go_wp2_with fail
                        refine (HBO.out _).mono ?_
                        rintro ex wq ⟨rfl, rfl⟩
                        go_wp2_with fail
                        refine (HBO.out _).mono ?_
                        rintro ex wq ⟨rfl, rfl⟩
                        go_wp2_with fail
                        refine (HSL.out _).mono ?_
                        rintro ex wq ⟨rfl, rfl⟩
                        go_wp2
                        go_loopw [10] (fun iv wr4 => ∃ q : Nat, 0 ≤ q ∧ q ≤ m ∧ iv = .int .i64 q ∧ RsW T gl gd w wr4 (mixed F P q) D) (fun iv _ => m - (intOf iv).toNat)
                        case atStart => exact ⟨0, Nat.le_refl _, by omega, rfl, HRS3.out⟩
                        case round =>
                          obtain ⟨q, hq0, hqm, rfl, hrq⟩ := hrel
                          by_cases hq : q < m
                          · have g1 := hrq.cL (i := q) (by rw [hml q (by omega)]; omega)
                            have g2 := hrq.fL q
                            have r1 := hrq.setL hne hTl q (F.getD q 0)
                            rw [mixed_set (by rw [HFL.out]; omega) (by rw [HPL.out]; omega), HRUN.out q (by omega) hq] at r1
                            have q0 : (0 : Int) ≤ (q : Int) := by omega
                            have q1 : (q : Int) < (m : Int) := by omega
                            have q2 : (q : Int) < (n : Int) := by omega
                            have HR1 := Lib.hid r1
                            clear r1 hrq
                            go_wp2
                            go_roundw
                            case rel => exact ⟨q + 1, by omega, by omega, by go_num, HR1.out⟩
                            case measure => simp [intOf]; omega
                          · have hqe : q = m := by omega
                            subst hqe
                            have HRQ := Lib.hid hrq
                            clear hrq
                            go_wp2
                            go_roundw
                            case rel => exact ⟨q, last, by omega, rfl, HFIN.out.1, HRQ.out, fun h => absurd h HFIN.out.2.1, fun _ h => absurd HFIN.out.2.2.1 h, HFIN.out.2.2.2⟩
                            case measure => simp [intOf]; omega
                      · obtain rfl : i = 0 := hi0
                        obtain rfl := hl0 rfl
                        have hmO : last = X := by rw [← hX, if_neg (by rw [HCL.out]; exact hm)]
                        have m1 : (n : Int) ≤ (m : Int) := by omega
                        have m0 : (0 : Int) ≤ (m : Int) := by omega
                        exact absurd hmO hlx
                  · by_cases hm : m < n
                    · by_cases hlx : last = X
                      · obtain ⟨p, rfl⟩ : ∃ p, i = p + 1 := ⟨i - 1, by omega⟩
                        have hDp : D.getD p 0 = last := by
                          refine hl1 (by omega) ?_
                          rcases hl2 with h | h | h | h
                          · omega
                          · exact h
                          · omega
                          · exact absurd hz h
                        have gp := hrs.cD (i := p) (by rw [HDL.out]; omega)
                        rw [hDp] at gp
                        have p0 : (0 : Int) ≤ (p : Int) := by omega
                        have p1 : (p : Int) < (n : Int) := by omega
                        have gm := hrs.cD (i := m) (by rw [HDL.out]; omega)
                        have hdm : D.getD m 0 = X := by rw [← hX, if_pos (by rw [HCL.out]; exact hm)]
                        rw [hdm] at gm hend
                        have hX0 : (X == 0) = false := by
                          rcases hend with h | h
                          · omega
                          · simp [h]
                        have m1 : (m : Int) < (n : Int) := by omega
                        have m0 : (0 : Int) ≤ (m : Int) := by omega
                        simp only [if_pos hlx] at hrun
                        have HFIN := Lib.hid hfin
                        have HRUN := Lib.hid hrun
                        have HRS3 := Lib.hid hrs
                        have hsl := HST.out last hlast
                        have HSL := Lib.hid hsl
                        have HLX2 := Lib.hid hlx
                        clear hfin hrun hrs hl0 hl1 hl2 hst hzz hsl hX hend hlx hDp hdm
                        obtain rfl := HLX2.out
                        go_wp2_with fail
                        refine (HBO.out _).mono ?_
                        rintro ex wq ⟨rfl, rfl⟩
                        go_wp2_with fail
                        refine (HBO.out _).mono ?_
                        rintro ex wq ⟨rfl, rfl⟩
                        go_wp2_with fail
                        refine (HSL.out _).mono ?_
                        rintro ex wq ⟨rfl, rfl⟩
                        go_wp2
                        go_loopw [10] (fun iv wr4 => ∃ q : Nat, p + 1 ≤ q ∧ q ≤ m ∧ iv = .int .i64 q ∧ RsW T gl gd w wr4 (mixed F P q) D) (fun iv _ => m - (intOf iv).toNat)
                        case atStart => exact ⟨p + 1, Nat.le_refl _, by omega, by go_num, HRS3.out⟩
                        case round =>
                          obtain ⟨q, hq0, hqm, rfl, hrq⟩ := hrel
                          by_cases hq : q < m
                          · have g1 := hrq.cL (i := q) (by rw [hml q (by omega)]; omega)
                            have g2 := hrq.fL q
                            have r1 := hrq.setL hne hTl q (F.getD q 0)
                            rw [mixed_set (by rw [HFL.out]; omega) (by rw [HPL.out]; omega), HRUN.out q (by omega) hq] at r1
                            have q0 : (0 : Int) ≤ (q : Int) := by omega
                            have q1 : (q : Int) < (m : Int) := by omega
                            have q2 : (q : Int) < (n : Int) := by omega
                            have HR1 := Lib.hid r1
                            clear r1 hrq
                            go_wp2
                            go_roundw
                            case rel => exact ⟨q + 1, by omega, by omega, by go_num, HR1.out⟩
                            case measure => simp [intOf]; omega
                          · have hqe : q = m := by omega
                            subst hqe
                            have HRQ := Lib.hid hrq
                            clear hrq
                            go_wp2
                            go_roundw
                            case rel => exact ⟨q, last, by omega, rfl, HFIN.out.1, HRQ.out, fun h => absurd h HFIN.out.2.1, fun _ h => absurd HFIN.out.2.2.1 h, HFIN.out.2.2.2⟩
                            case measure => simp [intOf]; omega
                      · obtain ⟨p, rfl⟩ : ∃ p, i = p + 1 := ⟨i - 1, by omega⟩
                        have hDp : D.getD p 0 = last := by
                          refine hl1 (by omega) ?_
                          rcases hl2 with h | h | h | h
                          · omega
                          · exact h
                          · omega
                          · exact absurd hz h
                        have gp := hrs.cD (i := p) (by rw [HDL.out]; omega)
                        rw [hDp] at gp
                        have p0 : (0 : Int) ≤ (p : Int) := by omega
                        have p1 : (p : Int) < (n : Int) := by omega
                        have gm := hrs.cD (i := m) (by rw [HDL.out]; omega)
                        have hdm : D.getD m 0 = X := by rw [← hX, if_pos (by rw [HCL.out]; exact hm)]
                        rw [hdm] at gm hend
                        have hX0 : (X == 0) = false := by
                          rcases hend with h | h
                          · omega
                          · simp [h]
                        have m1 : (m : Int) < (n : Int) := by omega
                        have m0 : (0 : Int) ≤ (m : Int) := by omega
                        simp only [if_neg hlx] at hrun
                        have hlb : (last == X) = false := by simp [hlx]
                        have HFIN := Lib.hid hfin
                        have HRUN := Lib.hid hrun
                        have HRS3 := Lib.hid hrs
                        have hsl := HST.out last hlast
                        have HSL := Lib.hid hsl
                        have HLX2 := Lib.hid hlx
                        clear hfin hrun hrs hl0 hl1 hl2 hst hzz hsl hX hend hlx hDp hdm
                        go_wp2_with fail
                        refine (HBO.out _).mono ?_
                        rintro ex wq ⟨rfl, rfl⟩
                        go_wp2_with fail
                        refine (HBO.out _).mono ?_
                        rintro ex wq ⟨rfl, rfl⟩
                        go_wp2
                        go_loopw [10] (fun iv wr4 => ∃ q : Nat, p + 1 ≤ q ∧ q ≤ m ∧ iv = .int .i64 q ∧ RsW T gl gd w wr4 (mixed F P q) D) (fun iv _ => m - (intOf iv).toNat)
                        case atStart => exact ⟨p + 1, Nat.le_refl _, by omega, by go_num, HRS3.out⟩
                        case round =>
                          obtain ⟨q, hq0, hqm, rfl, hrq⟩ := hrel
                          by_cases hq : q < m
                          · have g1 := hrq.cL (i := q) (by rw [hml q (by omega)]; omega)
                            have g2 := hrq.fL q
                            have r1 := hrq.setL hne hTl q (F.getD q 0)
                            rw [mixed_set (by rw [HFL.out]; omega) (by rw [HPL.out]; omega), HRUN.out q (by omega) hq] at r1
                            have q0 : (0 : Int) ≤ (q : Int) := by omega
                            have q1 : (q : Int) < (m : Int) := by omega
                            have q2 : (q : Int) < (n : Int) := by omega
                            have HR1 := Lib.hid r1
                            clear r1 hrq
                            go_wp2
                            go_roundw
                            case rel => exact ⟨q + 1, by omega, by omega, by go_num, HR1.out⟩
                            case measure => simp [intOf]; omega
                          · have hqe : q = m := by omega
                            subst hqe
                            have HRQ := Lib.hid hrq
                            clear hrq
                            go_wp2
                            go_roundw
                            case rel => exact ⟨q, last, by omega, rfl, HFIN.out.1, HRQ.out, fun h => absurd h HFIN.out.2.1, fun _ h => absurd HFIN.out.2.2.1 h, HFIN.out.2.2.2⟩
                            case measure => simp [intOf]; omega
                    · by_cases hlx : last = X
                      · obtain ⟨p, rfl⟩ : ∃ p, i = p + 1 := ⟨i - 1, by omega⟩
                        have hDp : D.getD p 0 = last := by
                          refine hl1 (by omega) ?_
                          rcases hl2 with h | h | h | h
                          · omega
                          · exact h
                          · omega
                          · exact absurd hz h
                        have gp := hrs.cD (i := p) (by rw [HDL.out]; omega)
                        rw [hDp] at gp
                        have p0 : (0 : Int) ≤ (p : Int) := by omega
                        have p1 : (p : Int) < (n : Int) := by omega
                        have hmO : O = X := by rw [← hX, if_neg (by rw [HCL.out]; exact hm)]
                        have m1 : (n : Int) ≤ (m : Int) := by omega
                        have m0 : (0 : Int) ≤ (m : Int) := by omega
                        simp only [if_pos hlx] at hrun
                        have HFIN := Lib.hid hfin
                        have HRUN := Lib.hid hrun
                        have HRS3 := Lib.hid hrs
                        have hsl := HST.out last hlast
                        have HSL := Lib.hid hsl
                        have HLX2 := Lib.hid hlx
                        clear hfin hrun hrs hl0 hl1 hl2 hst hzz hsl hX hend hlx hDp
                        subst hmO
                        obtain rfl := HLX2.out
                        go_wp2_with fail
                        refine (HBO.out _).mono ?_
                        rintro ex wq ⟨rfl, rfl⟩
                        go_wp2_with fail
                        refine (HBO.out _).mono ?_
                        rintro ex wq ⟨rfl, rfl⟩
                        go_wp2_with fail
                        refine (HSL.out _).mono ?_
                        rintro ex wq ⟨rfl, rfl⟩
                        go_wp2
                        go_loopw [10] (fun iv wr4 => ∃ q : Nat, p + 1 ≤ q ∧ q ≤ m ∧ iv = .int .i64 q ∧ RsW T gl gd w wr4 (mixed F P q) D) (fun iv _ => m - (intOf iv).toNat)
                        case atStart => exact ⟨p + 1, Nat.le_refl _, by omega, by go_num, HRS3.out⟩
                        case round =>
                          obtain ⟨q, hq0, hqm, rfl, hrq⟩ := hrel
                          by_cases hq : q < m
                          · have g1 := hrq.cL (i := q) (by rw [hml q (by omega)]; omega)
                            have g2 := hrq.fL q
                            have r1 := hrq.setL hne hTl q (F.getD q 0)
                            rw [mixed_set (by rw [HFL.out]; omega) (by rw [HPL.out]; omega), HRUN.out q (by omega) hq] at r1
                            have q0 : (0 : Int) ≤ (q : Int) := by omega
                            have q1 : (q : Int) < (m : Int) := by omega
                            have q2 : (q : Int) < (n : Int) := by omega
                            have HR1 := Lib.hid r1
                            clear r1 hrq
                            go_wp2
                            go_roundw
                            case rel => exact ⟨q + 1, by omega, by omega, by go_num, HR1.out⟩
                            case measure => simp [intOf]; omega
                          · have hqe : q = m := by omega
                            subst hqe
                            have HRQ := Lib.hid hrq
                            clear hrq
                            go_wp2
                            go_roundw
                            case rel => exact ⟨q, last, by omega, rfl, HFIN.out.1, HRQ.out, fun h => absurd h HFIN.out.2.1, fun _ h => absurd HFIN.out.2.2.1 h, HFIN.out.2.2.2⟩
                            case measure => simp [intOf]; omega
                      · obtain ⟨p, rfl⟩ : ∃ p, i = p + 1 := ⟨i - 1, by omega⟩
                        have hDp : D.getD p 0 = last := by
                          refine hl1 (by omega) ?_
                          rcases hl2 with h | h | h | h
                          · omega
                          · exact h
                          · omega
                          · exact absurd hz h
                        have gp := hrs.cD (i := p) (by rw [HDL.out]; omega)
                        rw [hDp] at gp
                        have p0 : (0 : Int) ≤ (p : Int) := by omega
                        have p1 : (p : Int) < (n : Int) := by omega
                        have hmO : O = X := by rw [← hX, if_neg (by rw [HCL.out]; exact hm)]
                        have m1 : (n : Int) ≤ (m : Int) := by omega
                        have m0 : (0 : Int) ≤ (m : Int) := by omega
                        simp only [if_neg hlx] at hrun
                        have hlb : (last == X) = false := by simp [hlx]
                        have HFIN := Lib.hid hfin
                        have HRUN := Lib.hid hrun
                        have HRS3 := Lib.hid hrs
                        have hsl := HST.out last hlast
                        have HSL := Lib.hid hsl
                        have HLX2 := Lib.hid hlx
                        clear hfin hrun hrs hl0 hl1 hl2 hst hzz hsl hX hend hlx hDp
                        subst hmO
                        go_wp2_with fail
                        refine (HBO.out _).mono ?_
                        rintro ex wq ⟨rfl, rfl⟩
                        go_wp2_with fail
                        refine (HBO.out _).mono ?_
                        rintro ex wq ⟨rfl, rfl⟩
                        go_wp2
                        go_loopw [10] (fun iv wr4 => ∃ q : Nat, p + 1 ≤ q ∧ q ≤ m ∧ iv = .int .i64 q ∧ RsW T gl gd w wr4 (mixed F P q) D) (fun iv _ => m - (intOf iv).toNat)
                        case atStart => exact ⟨p + 1, Nat.le_refl _, by omega, by go_num, HRS3.out⟩
                        case round =>
                          obtain ⟨q, hq0, hqm, rfl, hrq⟩ := hrel
                          by_cases hq : q < m
                          · have g1 := hrq.cL (i := q) (by rw [hml q (by omega)]; omega)
                            have g2 := hrq.fL q
                            have r1 := hrq.setL hne hTl q (F.getD q 0)
                            rw [mixed_set (by rw [HFL.out]; omega) (by rw [HPL.out]; omega), HRUN.out q (by omega) hq] at r1
                            have q0 : (0 : Int) ≤ (q : Int) := by omega
                            have q1 : (q : Int) < (m : Int) := by omega
                            have q2 : (q : Int) < (n : Int) := by omega
                            have HR1 := Lib.hid r1
                            clear r1 hrq
                            go_wp2
                            go_roundw
                            case rel => exact ⟨q + 1, by omega, by omega, by go_num, HR1.out⟩
                            case measure => simp [intOf]; omega
                          · have hqe : q = m := by omega
                            subst hqe
                            have HRQ := Lib.hid hrq
                            clear hrq
                            go_wp2
                            go_roundw
                            case rel => exact ⟨q, last, by omega, rfl, HFIN.out.1, HRQ.out, fun h => absurd h HFIN.out.2.1, fun _ h => absurd HFIN.out.2.2.1 h, HFIN.out.2.2.2⟩
                            case measure => simp [intOf]; omega
            · have HZ := Lib.hid hz
              have hz2 : cs.getD i 0 ≠ 0 := fun h => hz ((hst.zero hic hr.1 hr.2).2 h)
              have hz3 : (D.getD i 0 == 0) = false := by rw [beq_eq_false_iff_ne]; exact hz
              have hnew : ∃ last', D.getD i 0 = last' ∧ St e cs D P F (i + 1) last' ∧ F.getD i 0 = P.getD i 0 := by
                by_cases hc : cs.getD i 0 = 1 ∨ cs.getD i 0 = 2
                · obtain ⟨a1, a2, a3, a4⟩ := hst.strong hic hc
                  exact ⟨_, a1, a4, a3.trans a2.symm⟩
                · obtain ⟨a1, a2, a3, a4⟩ := hst.num hic (by omega)
                  exact ⟨_, a1, a4, a3⟩
              obtain ⟨last', n1, n2, n3⟩ := hnew
              rw [mixed_same (by rw [HFL.out]; exact hlt) (by rw [HPL.out]; exact hlt) n3] at hrs
              have HN1 := Lib.hid n1
              have HN2 := Lib.hid n2
              have HRS3 := Lib.hid hrs
              obtain ⟨d, hd⟩ : ∃ d, D.getD i 0 = d := ⟨_, rfl⟩
              rw [hd] at gD hz3
              clear n1 n2 n3 hz hz2 hst hrs hl0 hl1 hl2 hr hd
              go_wp2
              go_roundw
              case rel => exact ⟨i + 1, last', by omega, by go_num, HN2.out, HRS3.out, fun h => absurd h (by omega), fun _ _ => HN1.out, .inr (.inl HZ.out)⟩
              case measure => simp [intOf]; omega
          · have hin : i = n := by omega
            have hmF : mixed F P i = F := by
              unfold mixed
              rw [hin, List.drop_eq_nil_of_le (by rw [HPL.out]; exact Nat.le_refl _), List.append_nil, ← HFL.out, List.take_length]
            rw [hmF] at hrs
            have i1 : (n : Int) ≤ (i : Int) := by omega
            have HRS3 := Lib.hid hrs
            clear hst hrs hl0 hl1 hl2 hmF hin
            go_wp2
            go_ret
            refine ⟨_, rfl, ⟨by rw [List.length_map, HFL.out, Nat.mul_one], .inr ⟨gl, n, _, rfl, hTl, HRS3.out.hL, Nat.le_refl _, by unfold maxLen; omega, by simp [HFL.out], ?_⟩⟩, HRS3.out.hbel⟩
            rw [Nat.mul_one]
            show (F.map (Value.int .i64)).take n = _
            rw [List.take_of_length_le (by rw [List.length_map, HFL.out]; exact Nat.le_refl _)]
end Go.Proofs.Ytgefbagojghmeaa
