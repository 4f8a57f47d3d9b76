/-
  calqueref23.Order: the visual order of levels.
-/
import Derived.Test.YtgefbagojghmeaaOr1
import Derived.Test.YtgefbagojghmeaaOr2
namespace Go.Proofs.Ytgefbagojghmeaa
open Go.RowKit

/-- A run of a step, seen from its first element. -/
theorem run_here {p : Nat → Bool} {l : List Nat} {i k : Nat} (hik : i ≤ k) (hk : k ≤ l.length) (hrun : ∀ j, i ≤ j → j < k → p (l.getD j 0) = true) (he : k = l.length ∨ p (l.getD k 0) = false) :
    rr p [] (l.drop i) = ((l.drop i).take (k - i)).reverse ++ rr p [] (l.drop k) := by
  rw [cut_drop (cur := l) hik]
  refine (rr_run p _ [] _ ?_ ?_).trans ?_
  · intro x hx
    obtain ⟨j, hj, rfl⟩ := List.getElem_of_mem hx
    rw [List.length_take, List.length_drop] at hj
    have h1 := hrun (i + j) (by omega) (by omega)
    have e : l.getD (i + j) 0 = ((l.drop i).take (k - i))[j]'(by rw [List.length_take, List.length_drop]; omega) := by
      have hl : i + j < l.length := by omega
      simp [List.getD, hl]
    rw [← e]
    exact h1
  · by_cases hkl : k < l.length
    · right
      refine ⟨l.getD k 0, l.drop (k + 1), ?_, ?_⟩
      · rw [List.drop_eq_getElem_cons hkl]
        simp [List.getD, hkl]
      · rcases he with h | h
        · omega
        · exact h
    · exact .inl (List.drop_eq_nil_of_le (by omega))
  · rw [← cut_drop (cur := l) hik]
    simp
theorem seg_back {l : List Nat} {q k : Nat} (hq : q < k) (hk : k ≤ l.length) : ((l.drop q).take (k - q)).reverse = ((l.drop (q + 1)).take (k - (q + 1))).reverse ++ [l.getD q 0] := by
  have hql : q < l.length := by omega
  rw [List.drop_eq_getElem_cons hql, show k - q = (k - (q + 1)) + 1 by omega, List.take_succ_cons, List.reverse_cons]
  congr 1
  simp [List.getD, hql]
theorem natI_len (l : List Nat) : (natI l).length = l.length := by simp [natI]
theorem natI_at {l : List Nat} {j : Nat} (hj : j < l.length) : (natI l).getD j 0 = (l.getD j 0 : Nat) := by simp [natI, List.getD, hj]
theorem natI_snoc (l : List Nat) (x : Nat) : (natI (l ++ [x])).map (Value.int .i64) = (natI l).map (Value.int .i64) ++ [.int .i64 x] := by simp [natI]

set_option maxRecDepth 100000 in
set_option maxHeartbeats 4000000 in
theorem reforder_any (v : Value) (lv : List Int) (B : Nat) (w : World) (hv : IsInts w B v lv) (hB : B ≤ w.heap.size) (hx : lv.length ≤ 1000) :
    Calls Try.prog 25 #[v] w fun e w' => ∃ r, e = .returned r ∧ IsInts w' w'.heap.size r (natI (order lv)) ∧ Below w.heap.size w w' := by
  obtain ⟨i9, hi9, hz0, hz1, hz2⟩ := info_parts Try.infoInt
  obtain ⟨ao, ca, rfl, hc⟩ := hv
  obtain ⟨n, hn⟩ : ∃ n, n = lv.length := ⟨_, rfl⟩
  rw [← hn] at hc hx
  rw [← hn]
  obtain ⟨R, hR⟩ : ∃ R, order lv = R := ⟨_, rfl⟩
  rw [hR]
  have HC := Lib.hid hc
  have HN := Lib.hid hn
  have HR := Lib.hid hR
  obtain ⟨T, hT⟩ : ∃ T, T = w.heap.size := ⟨_, rfl⟩
  have HT := Lib.hid hT
  rw [← hT]
  clear hc hn hR hT
  go_enter Try.func25, Try.ntmps25
  go_wp2
  go_loopw [3, 4] (fun ov i wr => ∃ k : Nat, k ≤ n ∧ i = .int .i64 k ∧ (∀ j, j < k → 0 ≤ lv.getD j 0 ∧ lv.getD j 0 ≤ 100) ∧ wr.ownsRow T 3 1 ov k ((natI (List.range k)).map (Value.int .i64)) ∧ Below T w wr) (fun _ i _ => n - (intOf i).toNat)
  case atStart => exact ⟨0, Nat.zero_le _, rfl, fun j h => by omega, World.ownsRow_nil _ _ _ _, Below.refl _ _⟩
  case round =>
    obtain ⟨k, hk, rfl, hall, hown, hbel⟩ := hrel
    have k0 : (0 : Int) ≤ (k : Int) := by omega
    by_cases hlt : k < n
    · obtain ⟨b, o, rfl, hbB, hcl⟩ := HC.out (by omega)
      have c1 := (hbel.cell (p := ⟨b, o + k, none⟩) (by show b < T; have := HT.out; omega)).trans (hcl k hlt)
      obtain ⟨x, hx'⟩ : ∃ x, lv.getD k 0 = x := ⟨_, rfl⟩
      rw [hx'] at c1
      have HX := Lib.hid hx'
      have k1 : (k : Int) < (n : Int) := by omega
      have hsz : w.heap.size ≤ wr.heap.size := hbel.size
      have HBE := Lib.hid hbel
      have HALL := Lib.hid hall
      clear hcl hx' hbel hall
      by_cases hlo : x < 0
      · have hno : R = [] := by
          rw [← HR.out]
          unfold order
          rw [okLv_not (i := k) (by have := HN.out; omega) (by rw [HX.out]; omega), if_neg (by decide)]
        have HNO := Lib.hid hno
        clear hno hown
        go_wp2
        go_ret
        refine ⟨_, rfl, ?_, HBE.out⟩
        rw [HNO.out]
        exact ⟨none, 0, rfl, fun h => by simp [natI] at h⟩
      · by_cases hhi : 100 < x
        · have hno : R = [] := by
            rw [← HR.out]
            unfold order
            rw [okLv_not (i := k) (by have := HN.out; omega) (by rw [HX.out]; omega), if_neg (by decide)]
          have HNO := Lib.hid hno
          clear hno hown
          go_wp2
          go_ret
          refine ⟨_, rfl, ?_, HBE.out⟩
          rw [HNO.out]
          exact ⟨none, 0, rfl, fun h => by simp [natI] at h⟩
        · have HO := Lib.hid hown
          go_wp2_with (at_builtin; refine wpList_append_own _ rfl _ _ 24 rfl T 3 i9 (.int .i64 0) 1 8 Try.underlying24 hi9 hz0 hz1 hz2 rfl (by decide) _ _ _ rfl (hown.alloc _) ⟨wr.heap.size, 0, none⟩ 1 1 [.int .i64 k] rfl rfl (cell_one_new _ _ _) (by intro u hu; simp at hu; subst hu; rfl) (by unfold maxLen; omega) (by omega) (by have := HT.out; simp; omega) ?_; intro v' w2 hE2 hg2 hg3)
          have hb2 : Below T w w2 := (HBE.out.alloc (by have := HT.out; omega) _).grown hg2 (by have := HT.out; simp; omega) (fun j e => (HO.out.lt j e).1)
          have HE2 := Lib.hid hE2
          have HB2 := Lib.hid hb2
          clear hE2 hg2 hg3 hb2 hown
          go_wp2
          go_roundw
          case rel =>
            refine ⟨k + 1, by omega, by go_num, ?_, ?_, HB2.out⟩
            · intro j hj
              by_cases hjk : j = k
              · rw [hjk, HX.out]
                omega
              · exact HALL.out j (by omega)
            · have e1 : (natI (List.range (k + 1))).map (Value.int .i64) = (natI (List.range k)).map (Value.int .i64) ++ [.int .i64 k] := by rw [List.range_succ, natI_snoc]
              rw [e1]
              exact HE2.out
          case measure => simp [intOf] <;> omega
    · have hkn : k = n := by omega
      have hok : okLv lv = true := okLv_of fun i hi => hall i (by have := HN.out; omega)
      have hRR : R = ordN lv 100 (List.range n) := by
        rw [← HR.out]
        unfold order
        rw [hok, if_pos rfl, ← HN.out]
      have hii : IsInts wr wr.heap.size u3 (natI (List.range n)) := by
        refine IsInts.of_own (base := T) (e := 3) ?_
        rw [natI_len, List.length_range, ← hkn]
        exact hown
      have HRR := Lib.hid hRR
      have HII := Lib.hid hii
      have HBE := Lib.hid hbel
      have k1 : (n : Int) ≤ (k : Int) := by omega
      clear hown hRR hall hok hkn hii hbel
      go_wp2
      go_loopw [3, 5, 6, 7, 8, 9] (fun ov ev _ _ _ _ wr2 => ∃ (m : Nat) (l : List Nat), m ≤ 100 ∧ ev = .int .i64 m ∧ l.length = n ∧ (∀ x ∈ l, x < n) ∧ R = ordN lv m l ∧ IsInts wr2 wr2.heap.size ov (natI l) ∧ Below T w wr2) (fun _ ev _ _ _ _ _ => (intOf ev).toNat)
      case atStart => exact ⟨100, List.range n, Nat.le_refl _, rfl, List.length_range, fun x hx => List.mem_range.1 hx, HRR.out, HII.out, HBE.out⟩
      case round =>
        obtain ⟨m, l, hm100, rfl, hl, hlt2, hRl, hiiw, hbw⟩ := hrel
        by_cases hm : 1 ≤ m
        · obtain ⟨m', rfl⟩ : ∃ m', m = m' + 1 := ⟨m - 1, by omega⟩
          have m1 : (1 : Int) ≤ (m' : Int) + 1 := by omega
          obtain ⟨aol, cal, rfl, hlc⟩ := hiiw
          rw [natI_len, hl] at hlc
          rw [natI_len, hl]
          obtain ⟨wa, rfl⟩ : ∃ wa, wa = wr := ⟨wr, rfl⟩
          obtain ⟨T2, hT2⟩ : ∃ T2, T2 = wa.heap.size := ⟨_, rfl⟩
          rw [← hT2] at hlc
          have hTT : T ≤ T2 := by rw [hT2, HT.out]; exact hbw.size
          have hcn : ∀ j, j < n → l.getD j 0 < n := by
            intro j hj
            have hj' : j < l.length := by omega
            have e : l.getD j 0 = l[j] := by simp [List.getD, hj']
            rw [e]
            exact hlt2 _ (List.getElem_mem _)
          have HRL := Lib.hid hRl
          have HLC := Lib.hid hlc
          have HBW := Lib.hid hbw
          have HT2 := Lib.hid hT2
          have HLT := Lib.hid hlt2
          have HCN := Lib.hid hcn
          have HLL := Lib.hid hl
          clear hRl hlc hbw hT2 hlt2 hcn hl
          go_wp2
          go_loopw [6, 7, 8, 9] (fun nv iv _ _ wr3 => ∃ (i : Nat) (acc : List Nat), i ≤ n ∧ iv = .int .i64 i ∧ stepO lv (m' + 1) l = acc ++ rr (atLeast lv (m' + 1)) [] (l.drop i) ∧ wr3.ownsRow T2 3 1 nv acc.length ((natI acc).map (Value.int .i64)) ∧ Below T2 wa wr3) (fun _ iv _ _ _ => n - (intOf iv).toNat)
          case atStart => exact ⟨0, [], Nat.zero_le _, rfl, rfl, World.ownsRow_nil _ _ _ _, Below.refl _ _⟩
          case round =>
            obtain ⟨i, acc, hi, rfl, hst, hown, hb3⟩ := hrel
            have i0 : (0 : Int) ≤ (i : Int) := by omega
            by_cases hin : i < n
            · have haccl : acc.length ≤ n := by
                have := congrArg List.length hst
                rw [List.length_append, (stepO_perm lv (m' + 1) l).length_eq, HLL.out] at this
                omega
              have hlv : ∀ W, Below T2 wa W → ∀ y, y < n → ∃ b o, ao = some ⟨b, o, none⟩ ∧ W.cell? ⟨b, o + y, none⟩ = some (.int .i64 (lv.getD y 0)) := by
                intro W hW y hy
                obtain ⟨b, o, hao, hbB, hcl⟩ := HC.out (by omega)
                have hbT : b < T := by have := HT.out; omega
                exact ⟨b, o, hao, ((hW.cell (p := ⟨b, o + y, none⟩) (by show b < T2; omega)).trans (HBW.out.cell (p := ⟨b, o + y, none⟩) hbT)).trans (hcl y hy)⟩
              have hol : ∀ W, Below T2 wa W → ∀ y, y < n → ∃ b o, aol = some ⟨b, o, none⟩ ∧ W.cell? ⟨b, o + y, none⟩ = some (.int .i64 (l.getD y 0 : Nat)) := by
                intro W hW y hy
                obtain ⟨b, o, hao, hbB, hcl⟩ := HLC.out (by omega)
                have := hcl y hy
                rw [natI_at (by have := HLL.out; omega)] at this
                exact ⟨b, o, hao, (hW.cell (p := ⟨b, o + y, none⟩) hbB).trans this⟩
              have HLV := Lib.hid hlv
              have HOL := Lib.hid hol
              obtain ⟨bl, ol, rfl, c1⟩ := hol wr hb3 i hin
              have hxn := HCN.out i hin
              obtain ⟨x, hx⟩ : ∃ x, l.getD i 0 = x := ⟨_, rfl⟩
              rw [hx] at c1 hxn
              obtain ⟨b, o, rfl, c2⟩ := hlv wr hb3 x hxn
              obtain ⟨y, hy⟩ : ∃ y, lv.getD x 0 = y := ⟨_, rfl⟩
              rw [hy] at c2
              have i1 : (i : Int) < (n : Int) := by omega
              have x0 : (0 : Int) ≤ (x : Int) := by omega
              have x1 : (x : Int) < (n : Int) := by omega
              have hil : i < l.length := by have := HLL.out; omega
              have hdr : l.drop i = x :: l.drop (i + 1) := by
                rw [List.drop_eq_getElem_cons hil, ← hx]
                simp [List.getD, hil]
              clear hlv hol
              have HO := Lib.hid hown
              have HB3 := Lib.hid hb3
              have hT3 : T2 ≤ wr.heap.size := by rw [HT2.out]; exact hb3.size
              by_cases hp : y < (m' : Int) + 1
              · have hal : atLeast lv (m' + 1) x = false := by
                  unfold atLeast
                  rw [hy]
                  exact decide_eq_false (by omega)
                have hst2 : stepO lv (m' + 1) l = (acc ++ [x]) ++ rr (atLeast lv (m' + 1)) [] (l.drop (i + 1)) := by
                  rw [hst, hdr, rr_not hal]
                  simp
                have HST := Lib.hid hst2
                clear hst hst2 hdr hal hx hy hil hb3
                go_wp2_with (at_builtin; refine wpList_append_own _ rfl _ _ 24 rfl T2 3 i9 (.int .i64 0) 1 8 Try.underlying24 hi9 hz0 hz1 hz2 rfl (by decide) _ _ _ rfl (hown.alloc _) ⟨wr.heap.size, 0, none⟩ 1 1 [.int .i64 x] rfl rfl (cell_one_new _ _ _) (by intro u hu; simp at hu; subst hu; rfl) (by unfold maxLen; omega) (by omega) (by simp; omega) ?_; intro v' w4 hE2 hg2 hg3)
                have hb4 : Below T2 wa w4 := (HB3.out.alloc (by have := HT2.out; omega) _).grown hg2 (by have := HT2.out; simp; omega) (fun j e => (HO.out.lt j e).1)
                have HE4 := Lib.hid hE2
                have HB4 := Lib.hid hb4
                clear hE2 hg2 hg3 hb4 hown
                go_wp2
                go_roundw
                case rel => (repeat apply Exists.intro); exact ⟨⟨i + 1, acc ++ [x], by omega, by go_num, HST.out, by rw [natI_snoc, List.length_append]; exact HE4.out, HB4.out⟩, rfl⟩
                case measure => simp [intOf] <;> omega
              · have hge : (m' : Int) + 1 ≤ y := by omega
                have hal : atLeast lv (m' + 1) (l.getD i 0) = true := by
                  unfold atLeast
                  rw [hx, hy]
                  exact decide_eq_true (by omega)
                obtain ⟨wc, rfl⟩ : ∃ wc, wc = wr := ⟨wr, rfl⟩
                have HAL := Lib.hid hal
                have HST := Lib.hid hst
                have HOWN := Lib.hid hown
                clear hst hdr hal hx hy hb3 hown
                go_wp2
                go_loopw [8] (fun kv wr4 => ∃ k : Nat, i ≤ k ∧ k < n ∧ kv = .int .i64 k ∧ (∀ j, i ≤ j → j < k + 1 → atLeast lv (m' + 1) (l.getD j 0) = true) ∧ wc = wr4) (fun kv _ => n - (intOf kv).toNat)
                case atStart => exact ⟨i, Nat.le_refl _, hin, rfl, fun j h1 h2 => by have : j = i := by omega
                                                                                     rw [this]; exact HAL.out, rfl⟩
                case round =>
                  obtain ⟨k, hik, hkn, rfl, hrun, rfl⟩ := hrel
                  have k0 : (0 : Int) ≤ (k : Int) := by omega
                  by_cases hk : k + 1 < n ∧ atLeast lv (m' + 1) (l.getD (k + 1) 0) = true
                  · obtain ⟨hkn2, hka⟩ := hk
                    have hrun2 : ∀ j, i ≤ j → j < k + 1 + 1 → atLeast lv (m' + 1) (l.getD j 0) = true := by
                      intro j h1 h2
                      by_cases hj : j = k + 1
                      · rw [hj]; exact hka
                      · exact hrun j h1 (by omega)
                    obtain ⟨b', o', hbb, c3⟩ := HOL.out wc HB3.out (k + 1) hkn2
                    cases hbb
                    have hzn := HCN.out (k + 1) hkn2
                    unfold atLeast at hka
                    obtain ⟨z, hz⟩ : ∃ z, l.getD (k + 1) 0 = z := ⟨_, rfl⟩
                    rw [hz] at c3 hzn hka
                    obtain ⟨b'', o'', hbb, c4⟩ := HLV.out wc HB3.out z hzn
                    cases hbb
                    obtain ⟨u, hu⟩ : ∃ u, lv.getD z 0 = u := ⟨_, rfl⟩
                    rw [hu] at c4 hka
                    have hu1 : (m' : Int) + 1 ≤ u := by have := of_decide_eq_true hka; omega
                    have z0 : (0 : Int) ≤ (z : Int) := by omega
                    have z1 : (z : Int) < (n : Int) := by omega
                    have k2 : (k : Int) + 1 < (n : Int) := by omega
                    have HRUN := Lib.hid hrun2
                    clear hrun hrun2 hka hz hu
                    go_wp2
                    go_roundw
                    case rel => exact ⟨k + 1, by omega, by omega, by go_num, HRUN.out, trivial⟩
                    case measure => simp [intOf] <;> omega
                  · have hend : k + 1 = l.length ∨ atLeast lv (m' + 1) (l.getD (k + 1) 0) = false := by
                      by_cases h : k + 1 < n
                      · right
                        cases ha : atLeast lv (m' + 1) (l.getD (k + 1) 0) with
                        | false => rfl
                        | true => exact absurd ⟨h, ha⟩ hk
                      · left; have := HLL.out; omega
                    have hrh := run_here (p := atLeast lv (m' + 1)) (l := l) (i := i) (k := k + 1) (by omega) (by have := HLL.out; omega) hrun hend
                    have hst2 : stepO lv (m' + 1) l = (acc ++ ((l.drop i).take (k + 1 - i)).reverse) ++ rr (atLeast lv (m' + 1)) [] (l.drop (k + 1)) := by
                      rw [HST.out, hrh]
                      simp
                    have HST2 := Lib.hid hst2
                    clear hrh hst2 hrun
                    have hcase : (n : Int) ≤ (k : Int) + 1 ∨ ∃ z u : Int, (k : Int) + 1 < (n : Int) ∧ 0 ≤ z ∧ z < (n : Int) ∧ u < (m' : Int) + 1 ∧ (∀ b' o', (some ⟨bl, ol, none⟩ : Option Addr) = some ⟨b', o', none⟩ → wc.cell? ⟨b', o' + (k + 1), none⟩ = some (.int .i64 z)) ∧ wc.cell? ⟨b, o + z.toNat, none⟩ = some (.int .i64 u) := by
                      by_cases h : k + 1 < n
                      · right
                        obtain ⟨b', o', hbb, c3⟩ := HOL.out wc HB3.out (k + 1) h
                        cases hbb
                        have hzn := HCN.out (k + 1) h
                        obtain ⟨b'', o'', hbb, c4⟩ := HLV.out wc HB3.out _ hzn
                        cases hbb
                        refine ⟨(l.getD (k + 1) 0 : Nat), lv.getD (l.getD (k + 1) 0) 0, by omega, by omega, by omega, ?_, ?_, by rw [Int.toNat_natCast]; exact c4⟩
                        · rcases hend with h2 | h2
                          · have := HLL.out; omega
                          · unfold atLeast at h2
                            have := of_decide_eq_false h2
                            omega
                        · intro b' o' e
                          cases e
                          exact c3
                      · left; omega
                    clear hend hk
                    rcases hcase with k2 | ⟨z, u, k2, z0, z1, hu1, c3, c4⟩
                    all_goals
                      first | (have c3 := c3 _ _ rfl) | skip
                      go_wp2
                      go_loopw [6, 9] (fun nv jv wr5 => ∃ q : Nat, i ≤ q ∧ q ≤ k + 1 ∧ jv = .int .i64 ((q : Int) - 1) ∧ wr5.ownsRow T2 3 1 nv (acc.length + (k + 1 - q)) ((natI (acc ++ ((l.drop q).take (k + 1 - q)).reverse)).map (Value.int .i64)) ∧ Below T2 wa wr5) (fun _ jv _ => (intOf jv + 1).toNat)
                      case atStart => exact ⟨k + 1, by omega, Nat.le_refl _, by congr 1 <;> omega, by rw [Nat.sub_self]; simpa using HOWN.out, HB3.out⟩
                      case round =>
                        obtain ⟨q, hiq, hqk, rfl, hown, hb5⟩ := hrel
                        by_cases hq : i < q
                        · obtain ⟨q', rfl⟩ : ∃ q', q = q' + 1 := ⟨q - 1, by omega⟩
                          have hqe : ((q' + 1 : Nat) : Int) - 1 = q' := by omega
                          rw [hqe]
                          obtain ⟨b', o', hbb, c5⟩ := HOL.out wr hb5 q' (by omega)
                          cases hbb
                          obtain ⟨x5, hx5⟩ : ∃ x5, l.getD q' 0 = x5 := ⟨_, rfl⟩
                          rw [hx5] at c5
                          have hsb := seg_back (l := l) (q := q') (k := k + 1) (by omega) (by have := HLL.out; omega)
                          rw [hx5] at hsb
                          have q0 : (0 : Int) ≤ (q' : Int) := by omega
                          have q1 : (i : Int) ≤ (q' : Int) := by omega
                          have q2 : (q' : Int) < (n : Int) := by omega
                          have HO5 := Lib.hid hown
                          have HB5 := Lib.hid hb5
                          have HSB := Lib.hid hsb
                          have hT5 : T2 ≤ wr.heap.size := by rw [HT2.out]; exact hb5.size
                          clear hb5 hsb hx5
                          go_wp2_with (at_builtin; refine wpList_append_own _ rfl _ _ 24 rfl T2 3 i9 (.int .i64 0) 1 8 Try.underlying24 hi9 hz0 hz1 hz2 rfl (by decide) _ _ _ rfl (hown.alloc _) ⟨wr.heap.size, 0, none⟩ 1 1 [.int .i64 x5] rfl rfl (cell_one_new _ _ _) (by intro u hu; simp at hu; subst hu; rfl) (by unfold maxLen; omega) (by omega) (by simp; omega) ?_; intro v' w4 hE2 hg2 hg3)
                          have hb6 : Below T2 wa w4 := (HB5.out.alloc (by have := HT2.out; omega) _).grown hg2 (by have := HT2.out; simp; omega) (fun j e => (HO5.out.lt j e).1)
                          have HE6 := Lib.hid hE2
                          have HB6 := Lib.hid hb6
                          clear hE2 hg2 hg3 hb6 hown
                          go_wp2
                          go_roundw
                          case rel =>
                            refine ⟨q', by omega, by omega, by congr 1 <;> omega, ?_, HB6.out⟩
                            have e1 : (natI (acc ++ ((l.drop q').take (k + 1 - q')).reverse)).map (Value.int .i64) = (natI (acc ++ ((l.drop (q' + 1)).take (k + 1 - (q' + 1))).reverse)).map (Value.int .i64) ++ [.int .i64 x5] := by
                              rw [HSB.out, ← natI_snoc, List.append_assoc]
                            rw [e1, show acc.length + (k + 1 - q') = acc.length + (k + 1 - (q' + 1)) + 1 by omega]
                            exact HE6.out
                          case measure => simp [intOf] <;> omega
                        · have hqi : q = i := by omega
                          rw [hqi] at hown
                          have q1 : ((q : Nat) : Int) - 1 < (i : Int) := by omega
                          have hown2 : wr.ownsRow T2 3 1 u6 (acc ++ ((l.drop i).take (k + 1 - i)).reverse).length ((natI (acc ++ ((l.drop i).take (k + 1 - i)).reverse)).map (Value.int .i64)) := by
                            have e : (acc ++ ((l.drop i).take (k + 1 - i)).reverse).length = acc.length + (k + 1 - i) := by
                              have := HLL.out
                              simp
                              omega
                            rw [e]
                            exact hown
                          have HO5 := Lib.hid hown2
                          have HB5 := Lib.hid hb5
                          clear hown hown2 hb5 hqi
                          go_wp2
                          go_roundw
                          case rel => (repeat apply Exists.intro); exact ⟨⟨k + 1, _, by omega, by go_num, HST2.out, HO5.out, HB5.out⟩, rfl⟩
                          case measure => simp [intOf] <;> omega
            · have hie : i = n := by omega
              have hst2 : stepO lv (m' + 1) l = acc := by
                rw [hst, hie, List.drop_eq_nil_of_le (by have := HLL.out; omega)]
                simp [rr]
              have hRR2 : R = ordN lv m' acc := by
                rw [HRL.out, ordN, hst2]
              have hpm := stepO_perm lv (m' + 1) l
              rw [hst2] at hpm
              have hii2 := IsInts.of_own (base := T2) (e := 3) (xs := natI acc) (by rw [natI_len]; exact hown)
              have HR2 := Lib.hid hRR2
              have HPM := Lib.hid hpm
              have HI2 := Lib.hid hii2
              have HBX := Lib.hid (HBW.out.trans (hb3.mono (by omega)))
              have i1 : (n : Int) ≤ (i : Int) := by omega
              clear hst hst2 hRR2 hpm hii2 hown hb3 hie
              go_wp2
              go_roundw
              case rel => exact ⟨m', acc, by omega, by go_num, by rw [HPM.out.length_eq]; exact HLL.out, fun z hz => HLT.out z (HPM.out.mem_iff.1 hz), HR2.out, HI2.out, HBX.out⟩
              case measure => simp [intOf] <;> omega
        · have m0 : m = 0 := by omega
          subst m0
          have hRl : R = l := hRl
          have HRL := Lib.hid hRl
          have HII := Lib.hid hiiw
          have HBX := Lib.hid hbw
          clear hRl hiiw hbw hlt2
          go_wp2
          go_ret
          refine ⟨_, rfl, ?_, HBX.out⟩
          rw [HRL.out]
          exact HII.out
end Go.Proofs.Ytgefbagojghmeaa
