/-
  bidi.Order: the visual order of levels.
-/
import Derived.Test.YtgefbagojghmeaaOr0
import Derived.Test.YtgefbagojghmeaaRev2
import Derived.Test.YtgefbagojghmeaaBi13
namespace Go.Proofs.Ytgefbagojghmeaa
open Go.RowKit

def natI (l : List Nat) : List Int := l.map fun (i : Nat) => (i : Int)
theorem okLv_at {lv : List Int} (h : okLv lv = true) {i : Nat} (hi : i < lv.length) : 0 ≤ lv.getD i 0 ∧ lv.getD i 0 ≤ 100 := by
  unfold okLv at h
  rw [List.all_eq_true] at h
  have := h (lv.getD i 0) (by
    have e : lv.getD i 0 = lv[i] := by simp [List.getD, hi]
    rw [e]
    exact List.getElem_mem hi)
  simpa using this
theorem okLv_not {lv : List Int} {i : Nat} (hi : i < lv.length) (h : ¬ (0 ≤ lv.getD i 0 ∧ lv.getD i 0 ≤ 100)) : okLv lv = false := by
  cases hk : okLv lv with
  | false => rfl
  | true => exact absurd (okLv_at hk hi) h
theorem okLv_of {lv : List Int} (h : ∀ i, i < lv.length → 0 ≤ lv.getD i 0 ∧ lv.getD i 0 ≤ 100) : okLv lv = true := by
  unfold okLv
  rw [List.all_eq_true]
  intro x hx
  obtain ⟨i, hi, rfl⟩ := List.getElem_of_mem hx
  have := h i hi
  have e : lv.getD i 0 = lv[i] := by simp [List.getD, hi]
  rw [e] at this
  simpa using this

theorem cut_drop {cur : List Nat} {i k : Nat} (h : i ≤ k) : cur.drop i = (cur.drop i).take (k - i) ++ cur.drop k := by
  have e : cur.drop k = (cur.drop i).drop (k - i) := by rw [List.drop_drop, show i + (k - i) = k by omega]
  rw [e, List.take_append_drop]
/-- A run turned round. -/
def turned (cur : List Nat) (i k : Nat) : List Nat := cur.take i ++ ((cur.drop i).take (k - i)).reverse ++ cur.drop k
theorem turned_len {cur : List Nat} {i k : Nat} (h : i ≤ k) (hk : k ≤ cur.length) : (turned cur i k).length = cur.length := by
  unfold turned
  simp
  omega
theorem turned_mem {cur : List Nat} {i k : Nat} {x : Nat} (hx : x ∈ turned cur i k) : x ∈ cur := by
  unfold turned at hx
  rcases List.mem_append.1 hx with hx | hx
  · rcases List.mem_append.1 hx with hx | hx
    · exact List.mem_of_mem_take hx
    · exact List.mem_of_mem_drop (List.mem_of_mem_take (List.mem_reverse.1 hx))
  · exact List.mem_of_mem_drop hx
theorem turned_step {p : Nat → Bool} {cur st : List Nat} {i k : Nat} (h : i ≤ k) (hk : k ≤ cur.length) (hst : st = cur.take i ++ rr p [] (cur.drop i)) (hrun : ∀ j, i ≤ j → j < k → p (cur.getD j 0) = true)
    (he : k = cur.length ∨ p (cur.getD k 0) = false) : st = (turned cur i k).take k ++ rr p [] ((turned cur i k).drop k) := by
  have hr : rr p [] (cur.drop i) = ((cur.drop i).take (k - i)).reverse ++ [] ++ rr p [] (cur.drop k) := by
    rw [cut_drop (cur := cur) h]
    refine (rr_run p _ [] _ ?_ ?_).trans ?_
    · intro x hx
      obtain ⟨j, hj, rfl⟩ := List.getElem_of_mem hx
      rw [List.length_take, List.length_drop] at hj
      have h1 := hrun (i + j) (by omega) (by omega)
      have e : cur.getD (i + j) 0 = ((cur.drop i).take (k - i))[j]'(by rw [List.length_take, List.length_drop]; omega) := by
        have hl : i + j < cur.length := by omega
        simp [List.getD, hl]
      rw [← e]
      exact h1
    · by_cases hkl : k < cur.length
      · right
        refine ⟨cur.getD k 0, cur.drop (k + 1), ?_, ?_⟩
        · rw [List.drop_eq_getElem_cons hkl]
          simp [List.getD, hkl]
        · rcases he with h | h
          · omega
          · exact h
      · exact .inl (List.drop_eq_nil_of_le (by omega))
    · rw [← cut_drop (cur := cur) h]
  have hl : (cur.take i ++ ((cur.drop i).take (k - i)).reverse).length = k := by simp; omega
  unfold turned
  rw [List.take_left' hl, List.drop_left' hl, hst, hr]
  simp

set_option maxRecDepth 100000 in
set_option maxHeartbeats 4000000 in
theorem order_any (v : Value) (lv : List Int) (B : Nat) (w : World) (hv : IsInts w B v lv) (hB : B ≤ w.heap.size) (hx : lv.length ≤ 1000) :
    Calls Try.prog 24 #[v] w fun e w' => ∃ r, e = .returned r ∧ IsInts w' w'.heap.size r (natI (order lv)) ∧ Below w.heap.size w w' := by
  obtain ⟨i0, hi, hz0, hz1, hz2⟩ := info_parts Try.infoInt
  obtain ⟨ao, ca, rfl, hc⟩ := hv
  obtain ⟨n, hn⟩ : ∃ n, n = lv.length := ⟨_, rfl⟩
  rw [← hn] at hc hx
  rw [← hn]
  obtain ⟨R, hR⟩ : ∃ R, order lv = R := ⟨_, rfl⟩
  rw [hR]
  have HC := Lib.hid hc
  have HN := Lib.hid hn
  have HR := Lib.hid hR
  obtain ⟨T, hT⟩ : ∃ T, T = w.heap.size := ⟨_, rfl⟩
  have HT := Lib.hid hT
  rw [← hT]
  clear hc hn hR hT
  go_enter Try.func24, Try.ntmps24
  go_wp2
  go_loopw [3, 4, 5, 6, 12] (fun gv ov _ _ i wr => ∃ (k G : Nat), k ≤ n ∧ G ≤ 100 ∧ i = .int .i64 k ∧ gv = .int .i64 G ∧ (∀ j, j < k → 0 ≤ lv.getD j 0 ∧ lv.getD j 0 ≤ G) ∧ wr.ownsRow T 3 1 ov k ((natI (List.range k)).map (Value.int .i64)) ∧ Below T w wr) (fun _ _ _ _ i _ => n - (intOf i).toNat)
  case atStart => exact ⟨0, 0, Nat.zero_le _, Nat.zero_le _, rfl, rfl, fun j h => by omega, World.ownsRow_nil _ _ _ _, Below.refl _ _⟩
  case round =>
    obtain ⟨k, G, hk, hG, rfl, rfl, hall, hown, hbel⟩ := hrel
    obtain ⟨ov, hovd⟩ : ∃ ov, u4 = ov := ⟨_, rfl⟩
    rw [hovd] at hown ⊢
    clear hovd
    have k0 : (0 : Int) ≤ (k : Int) := by omega
    by_cases hlt : k < n
    · obtain ⟨b, o, rfl, hbB, hcl⟩ := HC.out (by omega)
      have c1 := (hbel.cell (p := ⟨b, o + k, none⟩) (by show b < T; have := HT.out; omega)).trans (hcl k hlt)
      obtain ⟨x, hx'⟩ : ∃ x, lv.getD k 0 = x := ⟨_, rfl⟩
      rw [hx'] at c1
      have HX := Lib.hid hx'
      have k1 : (k : Int) < (n : Int) := by omega
      have hsz : w.heap.size ≤ wr.heap.size := hbel.size
      have HBE := Lib.hid hbel
      have HALL := Lib.hid hall
      clear hcl hx' hbel hall
      by_cases hlo : x < 0
      · have hno : R = [] := by
          rw [← HR.out]
          unfold order
          rw [okLv_not (i := k) (by have := HN.out; omega) (by rw [HX.out]; omega), if_neg (by decide)]
        have HNO := Lib.hid hno
        clear hno hown
        go_wp2
        go_ret
        refine ⟨_, rfl, ?_, HBE.out⟩
        rw [HNO.out]
        exact ⟨none, 0, rfl, fun h => by simp [natI] at h⟩
      · by_cases hhi : 100 < x
        · have hno : R = [] := by
            rw [← HR.out]
            unfold order
            rw [okLv_not (i := k) (by have := HN.out; omega) (by rw [HX.out]; omega), if_neg (by decide)]
          have HNO := Lib.hid hno
          clear hno hown
          go_wp2
          go_ret
          refine ⟨_, rfl, ?_, HBE.out⟩
          rw [HNO.out]
          exact ⟨none, 0, rfl, fun h => by simp [natI] at h⟩
        · have HO := Lib.hid hown
          go_wp2_with (at_builtin; first
            | (refine wpList_append_lies _ rfl _ _ 24 rfl T 3 i0 (.int .i64 0) 1 8 Try.underlying24 hi hz0 hz1 hz2 rfl (by decide) _ _ _ rfl (hown.alloc _) ⟨wr.heap.size, 0, none⟩ 1 1 [.int .i64 k] rfl rfl (cell_one_new _ _ _) (by intro u hu; simp at hu; subst hu; rfl) (by decide) (by unfold maxLen; omega) (by omega) (by have := HT.out; simp; omega) _ rfl ?_
               intro g cap w2 hE2 hg2 hg3 hg4
               have hb2 : Below T w w2 := (HBE.out.alloc (by have := HT.out; omega) _).grown hg2 (by have := HT.out; simp; omega) (fun j e => (HO.out.lt j e).1)))
          go_roundw
          case rel =>
            refine ⟨k + 1, max G x.toNat, by omega, by omega, by go_num, ?_, ?_, ?_, hb2⟩
            · congr 1
              omega
            · intro j hj
              by_cases hjk : j = k
              · rw [hjk, HX.out]
                omega
              · obtain ⟨q1, q2⟩ := HALL.out j (by omega)
                exact ⟨q1, by omega⟩
            · have e1 : (natI (List.range (k + 1))).map (Value.int .i64) = (natI (List.range k)).map (Value.int .i64) ++ [.int .i64 k] := by
                unfold natI
                rw [List.range_succ]
                simp
              rw [e1]
              exact hE2
          case measure => simp [intOf] <;> omega
    · have hkn : k = n := by omega
      obtain ⟨wa, rfl⟩ : ∃ wa, wa = wr := ⟨wr, rfl⟩
      have hok : okLv lv = true := okLv_of fun i hi => by
        obtain ⟨q1, q2⟩ := hall i (by have := HN.out; omega)
        exact ⟨q1, by omega⟩
      have hRR : R = ordN lv G (List.range n) := by
        rw [← HR.out]
        unfold order
        rw [hok, if_pos rfl, ← HN.out]
        exact ordN_high 100 _ hG fun i hi => (hall i (by rw [hkn]; exact List.mem_range.1 hi)).2
      rw [hkn] at hown
      obtain ⟨ao4, cap4, hov, hS⟩ : ∃ (ao4 : Option Addr) (cap4 : Nat), ov = .slice ao4 n cap4 ∧ (0 < n → ∃ g S, ao4 = some ⟨g, 0, none⟩ ∧ T ≤ g ∧ n ≤ cap4 ∧ g < wa.heap.size ∧ RowV g wa ((natI (List.range n)).map (Value.int .i64) ++ S)) := by
        rcases hown.2 with ⟨hv, h0⟩ | ⟨g, cap, cur, hv, hb, hg, hn2, _, hs, ht⟩
        · exact ⟨none, 0, by rw [hv, h0], fun h => by omega⟩
        · refine ⟨some ⟨g, 0, none⟩, cap, hv, fun _ => ⟨g, cur.toList.drop n, rfl, hb, hn2, (Array.getElem?_eq_some_iff.1 hg).1, ?_⟩⟩
          rw [Nat.mul_one] at ht
          unfold RowV
          rw [← ht, List.take_append_drop]
          simpa using hg
      subst hov
      have HRR := Lib.hid hRR
      have HBE := Lib.hid hbel
      have G0 : (0 : Int) ≤ (G : Int) := by omega
      have k1 : (n : Int) ≤ (k : Int) := by omega
      clear hown hRR hall hok hkn
      by_cases hn0 : n = 0
      · have hR0 : R = [] := by
          have h1 := HRR.out
          have h2 := ordN_len lv G (List.range n)
          rw [← h1, List.length_range, hn0] at h2
          exact List.eq_nil_of_length_eq_zero h2
        have HR0 := Lib.hid hR0
        clear hR0 hS
        subst hn0
        go_wp2
        go_loopw [7, 8, 9] (fun ev _ _ wr2 => ∃ m : Nat, m ≤ 100 ∧ ev = .int .i64 m ∧ wa = wr2) (fun ev _ _ _ => (intOf ev).toNat)
        case atStart => exact ⟨G, hG, rfl, rfl⟩
        case round =>
          obtain ⟨m, hm100, rfl, rfl⟩ := hrel
          by_cases hm : 1 ≤ m
          · have m1 : (1 : Int) ≤ (m : Int) := by omega
            go_wp2
            go_loopw [8, 9] (fun iv _ wr3 => iv = .int .i64 0 ∧ wa = wr3) (fun _ _ _ => 0)
            case atStart => exact ⟨rfl, rfl⟩
            case round =>
              obtain ⟨rfl, rfl⟩ := hrel
              go_wp2
              go_roundw
              case rel => exact ⟨m - 1, by omega, by congr 1 <;> omega, trivial⟩
              case measure => simp [intOf] <;> omega
          · have m1 : (m : Int) < 1 := by omega
            go_wp2
            go_ret
            refine ⟨_, rfl, ?_, HBE.out⟩
            rw [HR0.out]
            exact ⟨_, _, rfl, fun h => by simp [natI] at h⟩
      · obtain ⟨g, S, rfl, hTg, hncap, hgl, hrow⟩ := hS (by omega)
        obtain ⟨b, o, rfl, hbB, hcl⟩ := HC.out (by omega)
        have HCL := Lib.hid hcl
        have HROW := Lib.hid hrow
        clear hS hrow hcl
        go_wp2
        go_loopw [7, 8, 9] (fun ev _ _ wr2 => ∃ (m : Nat) (l : List Nat), m ≤ 100 ∧ ev = .int .i64 m ∧ l.length = n ∧ (∀ x ∈ l, x < n) ∧ R = ordN lv m l ∧ RowV g wr2 ((natI l).map (Value.int .i64) ++ S) ∧ wa.grownBy wr2 (some g)) (fun ev _ _ _ => (intOf ev).toNat)
        case atStart => exact ⟨G, List.range n, hG, rfl, List.length_range, fun x hx => List.mem_range.1 hx, HRR.out, HROW.out, World.grownBy.refl _ _⟩
        case round =>
          obtain ⟨m, l, hm100, rfl, hl, hlt2, hRl, hrw, hgr⟩ := hrel
          by_cases hm : 1 ≤ m
          · obtain ⟨m', rfl⟩ : ∃ m', m = m' + 1 := ⟨m - 1, by omega⟩
            have m1 : (1 : Int) ≤ (m' : Int) + 1 := by omega
            have HRL := Lib.hid hRl
            have HRW := Lib.hid hrw
            have HGR := Lib.hid hgr
            have HLT := Lib.hid hlt2
            clear hRl hrw hgr hlt2
            go_wp2
            go_loopw [8, 9] (fun iv _ wr3 => ∃ (i : Nat) (cur : List Nat), i ≤ n ∧ cur.length = n ∧ iv = .int .i64 i ∧ (∀ x ∈ cur, x < n) ∧ stepO lv (m' + 1) l = cur.take i ++ rr (atLeast lv (m' + 1)) [] (cur.drop i) ∧ RowV g wr3 ((natI cur).map (Value.int .i64) ++ S) ∧ wa.grownBy wr3 (some g)) (fun iv _ _ => n - (intOf iv).toNat)
            case atStart => exact ⟨0, l, Nat.zero_le _, hl, rfl, HLT.out, rfl, HRW.out, HGR.out⟩
            case round =>
              obtain ⟨i, cur, hi, hcl2, rfl, hclt, hst, hrw, hgr⟩ := hrel
              have i0 : (0 : Int) ≤ (i : Int) := by omega
              by_cases hin : i < n
              · obtain ⟨x, hx⟩ : ∃ x, cur.getD i 0 = x := ⟨_, rfl⟩
                have hxm : x ∈ cur := by
                  have e : cur.getD i 0 = cur[i] := by simp [List.getD, hcl2, hin]
                  rw [← hx, e]
                  exact List.getElem_mem _
                have hxn := hclt x hxm
                have hcat : ∀ j, j < n → ((natI cur).map (Value.int .i64) ++ S)[j]? = some (.int .i64 (cur.getD j 0 : Nat)) := by
                  intro j hj
                  rw [List.getElem?_append_left (by simp [natI]; omega)]
                  have hj' : j < cur.length := by omega
                  simp [natI, List.getD, hj']
                have c1 := hrw.cell (hcat i hin)
                rw [hx] at c1
                have hlv : ∀ y, y < n → wr.cell? ⟨b, o + y, none⟩ = some (.int .i64 (lv.getD y 0)) := by
                  intro y hy
                  have hbT : b < T := by have := HT.out; omega
                  have h1 := (HBE.out.cell (p := ⟨b, o + y, none⟩) hbT).trans (HCL.out y hy)
                  exact hgr.cell h1 (by intro e; have e2 : b = g := Option.some.inj e; omega)
                have c2 := hlv x hxn
                have i1 : (i : Int) < (n : Int) := by omega
                have x0 : (0 : Int) ≤ (x : Int) := by omega
                have x1 : (x : Int) < (n : Int) := by omega
                have hdr : ∀ j, j < n → cur.drop j = cur.getD j 0 :: cur.drop (j + 1) := by
                  intro j hj
                  have hj' : j < cur.length := by omega
                  rw [List.drop_eq_getElem_cons hj']
                  simp [List.getD, hj']
                have htk : ∀ j, j < n → cur.take (j + 1) = cur.take j ++ [cur.getD j 0] := by
                  intro j hj
                  have hj' : j < cur.length := by omega
                  rw [List.take_succ_eq_append_getElem hj']
                  simp [List.getD, hj']
                obtain ⟨y, hy⟩ : ∃ y, lv.getD x 0 = y := ⟨_, rfl⟩
                rw [hy] at c2
                by_cases hp : y < (m' : Int) + 1
                · have hal : atLeast lv (m' + 1) x = false := by
                    unfold atLeast
                    rw [hy]
                    exact decide_eq_false (by omega)
                  have hst2 : stepO lv (m' + 1) l = cur.take (i + 1) ++ rr (atLeast lv (m' + 1)) [] (cur.drop (i + 1)) := by
                    rw [hst, hdr i hin, hx, rr_not hal, htk i hin, hx]
                    simp
                  have HST := Lib.hid hst2
                  have HRW3 := Lib.hid hrw
                  have HGR3 := Lib.hid hgr
                  have HCT := Lib.hid hclt
                  clear hst hst2 hrw hgr hclt hcat hlv hdr htk hal hx hy hxm
                  go_wp2
                  go_roundw
                  case rel => exact ⟨i + 1, cur, by omega, hcl2, by go_num, HCT.out, HST.out, HRW3.out, HGR3.out⟩
                  case measure => simp [intOf] <;> omega
                · have hge : (m' : Int) + 1 ≤ y := by omega
                  obtain ⟨wc, rfl⟩ : ∃ wc, wc = wr := ⟨wr, rfl⟩
                  have hcn : ∀ j, j < n → cur.getD j 0 < n := by
                    intro j hj
                    have hj' : j < cur.length := by omega
                    have e : cur.getD j 0 = cur[j] := by simp [List.getD, hj']
                    rw [e]
                    exact hclt _ (List.getElem_mem _)
                  have hal : atLeast lv (m' + 1) (cur.getD i 0) = true := by
                    unfold atLeast
                    rw [hx, hy]
                    exact decide_eq_true (by omega)
                  have HST := Lib.hid hst
                  have HRW3 := Lib.hid hrw
                  have HGR3 := Lib.hid hgr
                  have HCT := Lib.hid hclt
                  have HCAT := Lib.hid hcat
                  have HLV := Lib.hid hlv
                  have HDR := Lib.hid hdr
                  have HTK := Lib.hid htk
                  have HCN := Lib.hid hcn
                  have HAL := Lib.hid hal
                  clear hst hrw hgr hclt hcat hlv hdr htk hcn hal hx hy hxm
                  go_wp2
                  go_loopw [9] (fun kv wr4 => ∃ k : Nat, i ≤ k ∧ k ≤ n ∧ kv = .int .i64 k ∧ (∀ j, i ≤ j → j < k → atLeast lv (m' + 1) (cur.getD j 0) = true) ∧ wc = wr4) (fun kv _ => n - (intOf kv).toNat)
                  case atStart => exact ⟨i, Nat.le_refl _, hi, rfl, fun j h1 h2 => by omega, rfl⟩
                  case round =>
                    obtain ⟨k, hik, hkn, rfl, hrun, rfl⟩ := hrel
                    have k0 : (0 : Int) ≤ (k : Int) := by omega
                    by_cases hk : k < n ∧ atLeast lv (m' + 1) (cur.getD k 0) = true
                    · obtain ⟨hkn2, hka⟩ := hk
                      have hrun2 : ∀ j, i ≤ j → j < k + 1 → atLeast lv (m' + 1) (cur.getD j 0) = true := by
                        intro j h1 h2
                        by_cases hj : j = k
                        · rw [hj]; exact hka
                        · exact hrun j h1 (by omega)
                      have c3 := HRW3.out.cell (HCAT.out k hkn2)
                      have hzn := HCN.out k hkn2
                      have c4 := HLV.out _ hzn
                      unfold atLeast at hka
                      obtain ⟨z, hz⟩ : ∃ z, cur.getD k 0 = z := ⟨_, rfl⟩
                      rw [hz] at c3 c4 hzn hka
                      obtain ⟨u, hu⟩ : ∃ u, lv.getD z 0 = u := ⟨_, rfl⟩
                      rw [hu] at c4 hka
                      have hu1 : (m' : Int) + 1 ≤ u := by have := of_decide_eq_true hka; omega
                      have z0 : (0 : Int) ≤ (z : Int) := by omega
                      have z1 : (z : Int) < (n : Int) := by omega
                      have k2 : (k : Int) < (n : Int) := by omega
                      have HRUN := Lib.hid hrun2
                      clear hrun hrun2 hka hz hu
                      go_wp2
                      go_roundw
                      case rel => exact ⟨k + 1, by omega, by omega, by go_num, HRUN.out, trivial⟩
                      case measure => simp [intOf] <;> omega
                    · have hik2 : i < k := by
                        by_cases h : i = k
                        · exact absurd ⟨by omega, h ▸ HAL.out⟩ hk
                        · omega
                      have hend : k = cur.length ∨ atLeast lv (m' + 1) (cur.getD k 0) = false := by
                        by_cases h : k < n
                        · right
                          cases ha : atLeast lv (m' + 1) (cur.getD k 0) with
                          | false => rfl
                          | true => exact absurd ⟨h, ha⟩ hk
                        · left; omega
                      have hstep := turned_step (p := atLeast lv (m' + 1)) (cur := cur) (i := i) (k := k) hik (by omega) HST.out hrun hend
                      have hlA : ((natI (cur.take i)).map (Value.int .i64)).length = i := by simp [natI]; omega
                      have hlZ : (natI ((cur.drop i).take (k - i))).length = k - i := by simp [natI]; omega
                      have hsp : (natI cur).map (Value.int .i64) ++ S = (natI (cur.take i)).map (Value.int .i64) ++ (natI ((cur.drop i).take (k - i))).map (Value.int .i64) ++ ((natI (cur.drop k)).map (Value.int .i64) ++ S) := by
                        have e : cur = cur.take i ++ ((cur.drop i).take (k - i) ++ cur.drop k) := by rw [← cut_drop (cur := cur) hik, List.take_append_drop]
                        conv => lhs; rw [e]
                        simp [natI]
                      have hrv := reverse_any g (cap4 - i) ((natI (cur.take i)).map (Value.int .i64)) ((natI (cur.drop k)).map (Value.int .i64) ++ S) (natI ((cur.drop i).take (k - i))) wc (by rw [← hsp]; exact HRW3.out) (by omega)
                      rw [hlA, hlZ] at hrv
                      have HRV := Lib.hid hrv
                      have HSTEP := Lib.hid hstep
                      have hrowe : (natI (cur.take i)).map (Value.int .i64) ++ (natI ((cur.drop i).take (k - i))).reverse.map (Value.int .i64) ++ ((natI (cur.drop k)).map (Value.int .i64) ++ S) = (natI (turned cur i k)).map (Value.int .i64) ++ S := by
                        unfold turned natI
                        simp
                      have HROWE := Lib.hid hrowe
                      have htl : (turned cur i k).length = n := by rw [turned_len hik (by omega)]; exact hcl2
                      have htm : ∀ x ∈ turned cur i k, x < n := fun x hx => HCT.out x (turned_mem hx)
                      have HTL := Lib.hid htl
                      have HTM := Lib.hid htm
                      have k3 : (i : Int) < (k : Int) := by omega
                      have k4 : (k : Int) ≤ (cap4 : Int) := by omega
                      clear hsp hrowe htl htm
                      by_cases hkn2 : k < n
                      · have hka : atLeast lv (m' + 1) (cur.getD k 0) = false := by
                          rcases hend with h | h
                          · omega
                          · exact h
                        have c3 := HRW3.out.cell (HCAT.out k hkn2)
                        have hzn := HCN.out k hkn2
                        have c4 := HLV.out _ hzn
                        unfold atLeast at hka
                        obtain ⟨z, hz⟩ : ∃ z, cur.getD k 0 = z := ⟨_, rfl⟩
                        rw [hz] at c3 c4 hzn hka
                        obtain ⟨u, hu⟩ : ∃ u, lv.getD z 0 = u := ⟨_, rfl⟩
                        rw [hu] at c4 hka
                        have hu1 : u < (m' : Int) + 1 := by have := of_decide_eq_false hka; omega
                        have z0 : (0 : Int) ≤ (z : Int) := by omega
                        have z1 : (z : Int) < (n : Int) := by omega
                        have k2 : (k : Int) < (n : Int) := by omega
                        clear hka hz hu hend
                        clear hrun hk hstep hrv hlA hlZ
                        go_wp2_with fail
                        refine HRV.out.mono ?_
                        rintro ex w5 ⟨rfl, hr5, hg5⟩
                        have HR5 := Lib.hid hr5
                        have HG5 := Lib.hid hg5
                        clear hr5 hg5
                        go_wp2
                        go_roundw
                        case rel => (repeat apply Exists.intro); exact ⟨⟨k, turned cur i k, by omega, HTL.out, rfl, HTM.out, HSTEP.out, by rw [← HROWE.out]; exact HR5.out, HGR3.out.trans HG5.out⟩, rfl⟩
                        case measure => simp [intOf] <;> omega
                      · have k2 : (n : Int) ≤ (k : Int) := by omega
                        clear hend
                        clear hrun hk hstep hrv hlA hlZ
                        go_wp2_with fail
                        refine HRV.out.mono ?_
                        rintro ex w5 ⟨rfl, hr5, hg5⟩
                        have HR5 := Lib.hid hr5
                        have HG5 := Lib.hid hg5
                        clear hr5 hg5
                        go_wp2
                        go_roundw
                        case rel => (repeat apply Exists.intro); exact ⟨⟨k, turned cur i k, by omega, HTL.out, rfl, HTM.out, HSTEP.out, by rw [← HROWE.out]; exact HR5.out, HGR3.out.trans HG5.out⟩, rfl⟩
                        case measure => simp [intOf] <;> omega
              · have hie : i = n := by omega
                have hst2 : stepO lv (m' + 1) l = cur := by
                  rw [hst, hie, List.drop_eq_nil_of_le (by omega), ← hcl2, List.take_length]
                  simp [rr]
                have hRR2 : R = ordN lv m' cur := by
                  rw [HRL.out, ordN, hst2]
                have HR2 := Lib.hid hRR2
                have HRW3 := Lib.hid hrw
                have HGR3 := Lib.hid hgr
                have HCT := Lib.hid hclt
                have i1 : (n : Int) ≤ (i : Int) := by omega
                clear hst hst2 hRR2 hrw hgr hclt hie
                go_wp2
                go_roundw
                case rel => exact ⟨m', cur, by omega, by go_num, hcl2, HCT.out, HR2.out, HRW3.out, HGR3.out⟩
                case measure => simp [intOf] <;> omega
          · have m0 : m = 0 := by omega
            subst m0
            have hRl : R = l := hRl
            have HRL := Lib.hid hRl
            have HRW := Lib.hid hrw
            have HGR := Lib.hid hgr
            clear hRl hrw hgr hlt2
            go_wp2
            go_ret
            refine ⟨_, rfl, ?_, HBE.out.trans (grown_below HGR.out hTg (by omega))⟩
            rw [HRL.out]
            refine ⟨_, cap4, by simp [natI, hl], fun _ => ⟨g, 0, rfl, Nat.lt_of_lt_of_le hgl HGR.out.size, fun i hi => ?_⟩⟩
            refine HRW.out.cell ?_
            have hi' : i < l.length := by simpa [natI] using hi
            rw [Nat.zero_add, List.getElem?_append_left (by simpa [natI] using hi')]
            simp [natI, List.getD, hi']
end Go.Proofs.Ytgefbagojghmeaa
