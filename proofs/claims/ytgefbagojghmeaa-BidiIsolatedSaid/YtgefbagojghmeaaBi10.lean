/-
  The closure of bidi's levels: puts the levels of a segment.
-/
import Derived.Test.YtgefbagojghmeaaBi5
import Derived.Test.YtgefbagojghmeaaRowW
import Derived.Deep.DeepCutAuto
import Derived.Deep.CutBlock
namespace Go.Proofs.Ytgefbagojghmeaa
open Go.RowKit

/-- What the closure captures: the text, the levels, itself. -/
structure SeqW (g pt po ps n : Nat) (ao : Option Addr) (ca : Nat) (aoe : Option Addr) (cae : Nat) (D : Int) (w : World) : Prop where
  ht : w.heap[pt]? = some (.cells #[.slice ao n ca, .slice aoe n cae, .int .i64 D] 49 (0, 0))
  ho : w.heap[po]? = some (.cells #[.slice (some ⟨g, 0, none⟩) n n] 24 (0, 0))
  hq : w.heap[ps]? = some (.cells #[.func (.func 51) #[] #[.pointer (some ⟨pt, 0, none⟩), .pointer (some ⟨po, 0, none⟩), .pointer (some ⟨ps, 0, none⟩)]] 70 (0, 0))
section
variable {g pt po ps n : Nat} {ao : Option Addr} {ca : Nat} {aoe : Option Addr} {cae : Nat} {D : Int} {w : World}
theorem SeqW.lt (h : SeqW g pt po ps n ao ca aoe cae D w) : pt < w.heap.size ∧ po < w.heap.size ∧ ps < w.heap.size := ⟨(Array.getElem?_eq_some_iff.1 h.ht).1, (Array.getElem?_eq_some_iff.1 h.ho).1, (Array.getElem?_eq_some_iff.1 h.hq).1⟩
theorem SeqW.grown (h : SeqW g pt po ps n ao ca aoe cae D w) {w' : World} (hg : w.grownBy w' (some g)) (h1 : pt ≠ g) (h2 : po ≠ g) (h3 : ps ≠ g) : SeqW g pt po ps n ao ca aoe cae D w' := by
  obtain ⟨l1, l2, l3⟩ := h.lt
  exact ⟨(hg.block pt l1 (by intro e; cases e; exact h1 rfl)).trans h.ht, (hg.block po l2 (by intro e; cases e; exact h2 rfl)).trans h.ho, (hg.block ps l3 (by intro e; cases e; exact h3 rfl)).trans h.hq⟩
theorem SeqW.ct (h : SeqW g pt po ps n ao ca aoe cae D w) : w.cell? ⟨pt, 0, none⟩ = some (.slice ao n ca) ∧ w.cell? ⟨pt, 0 + 1, none⟩ = some (.slice aoe n cae) ∧ w.cell? ⟨pt, 0 + 2, none⟩ = some (.int .i64 D) := by
  refine ⟨?_, ?_, ?_⟩ <;> rw [Lib.cell_of_heap h.ht] <;> rfl
theorem SeqW.co (h : SeqW g pt po ps n ao ca aoe cae D w) : w.cell? ⟨po, 0, none⟩ = some (.slice (some ⟨g, 0, none⟩) n n) := by rw [Lib.cell_of_heap h.ho]; rfl
theorem SeqW.cq (h : SeqW g pt po ps n ao ca aoe cae D w) : w.cell? ⟨ps, 0, none⟩ = some (.func (.func 51) #[] #[.pointer (some ⟨pt, 0, none⟩), .pointer (some ⟨po, 0, none⟩), .pointer (some ⟨ps, 0, none⟩)]) := by rw [Lib.cell_of_heap h.hq]; rfl
end

set_option maxRecDepth 100000 in
set_option maxHeartbeats 8000000 in
theorem seq_any (xs : List Int) (B g pt po ps : Nat) (ao : Option Addr) (ca : Nat) (aoe : Option Addr) (cae : Nat) (hx : xs.length ≤ 400) (hBg : B ≤ g) (h1 : pt ≠ g) (h2 : po ≠ g) (h3 : ps ≠ g) : ∀ (m a b e : Nat) (L : List Int) (w : World), b - a ≤ m → a ≤ xs.length → b ≤ xs.length → Shut xs a b → e + 2 * (b - a) ≤ 1000 → L.length = xs.length →
    IsText w B (.agg #[.slice ao xs.length ca, .slice aoe xs.length cae, .int .i64 (rdRun xs.length xs).2.2]) xs → SeqW g pt po ps xs.length ao ca aoe cae (rdRun xs.length xs).2.2 w → RowW g w L →
    Calls Try.prog 51 #[.int .i64 a, .int .i64 b, .int .i64 e, .pointer (some ⟨pt, 0, none⟩), .pointer (some ⟨po, 0, none⟩), .pointer (some ⟨ps, 0, none⟩)] w (FillP xs g a b e L w) := by
  intro m
  induction m using Nat.strongRecOn with
  | ind m ih =>
  intro a b e L w hm ha hb hs he hL ht hq hrow
  have hgl := hrow.lt
  have hTl := ht
  obtain ⟨hil, hiok⟩ := items_ok (xs := xs) (b := b) hb (b - a) a (Nat.le_refl _)
  have hic := items_cls0 (xs := xs) (b := b) hb (b - a) a (Nat.le_refl _)
  have hit := bitems_any _ xs B a b w ht (by omega) (by omega) ha hb
  have hih : ∀ (i t e' : Nat) (L' : List Int) (W : World), a ≤ i → i < b → i + 1 ≤ t → t ≤ b → initB (xs.getD i 0) = true → t = matchV xs i → e' ≤ e + 2 → L'.length = xs.length → IsText W B (.agg #[.slice ao xs.length ca, .slice aoe xs.length cae, .int .i64 (rdRun xs.length xs).2.2]) xs → SeqW g pt po ps xs.length ao ca aoe cae (rdRun xs.length xs).2.2 W → RowW g W L' → Calls Try.prog 51 #[.int .i64 (i + 1 : Nat), .int .i64 t, .int .i64 e', .pointer (some ⟨pt, 0, none⟩), .pointer (some ⟨po, 0, none⟩), .pointer (some ⟨ps, 0, none⟩)] W (FillP xs g (i + 1) t e' L' W) := by
    intro i t e' L' W h1 h2 h3 h4 h5 h6 h7 h8 h9 h10 h11
    exact ih (t - (i + 1)) (by omega) (i + 1) t e' L' W (Nat.le_refl _) (by omega) (by omega) (by rw [h6]; exact shut_inside (by omega) h5) (by omega) h8 h9 h10 h11
  have hitW := fun W i t (hW : IsText W B (.agg #[.slice ao xs.length ca, .slice aoe xs.length cae, .int .i64 (rdRun xs.length xs).2.2]) xs) h1 h2 h3 => bitems_any _ xs B i t W hW h1 (by omega) h2 h3
  have hfl := fun i t (e' : Int) (L' : List Int) (h1 : a ≤ i) (h2 : i < b) (h3 : t ≤ b) (h4 : Shut xs (i + 1) t) => fillF_fuel (t - (i + 1) + 1) (b - a) (i + 1) t e' L' (by omega) h4 (by omega) (by omega)
  clear ih
  have hvb : ∀ W, Below B w W → IsText W B (.agg #[.slice ao xs.length ca, .slice aoe xs.length cae, .int .i64 (rdRun xs.length xs).2.2]) xs := by
    intro W hW
    obtain ⟨lv, ev, h1, h2, h3⟩ := ht
    exact ⟨lv, ev, h1, h2.below hW, h3.below hW⟩
  have hcl : 0 < xs.length → ∃ b0 o0, ao = some ⟨b0, o0, none⟩ ∧ b0 < B ∧ ∀ i, i < xs.length → w.cell? ⟨b0, o0 + i, none⟩ = some (.int .i64 (xs.getD i 0)) := by
    obtain ⟨lv, ev, h1, ⟨ao', ca', h2, h3⟩, _⟩ := ht
    cases h1
    cases h2
    exact h3
  unfold FillP at hih ⊢
  rw [fillF_eq]
  obtain ⟨IT, hIT⟩ : ∃ IT, items xs a b = IT := ⟨_, rfl⟩
  unfold ItemsP at hit hitW
  rw [hIT] at hit hil hiok hic
  rw [hIT]
  obtain ⟨N, hN⟩ : ∃ N, N = IT.length := ⟨_, rfl⟩
  have hNb : N ≤ 400 := by omega
  have hFl : (itLv e IT).length = N := by unfold itLv; rw [lvls_len, List.length_map, hN]
  have hres := fun v W B' (h : IsItems W B' v IT) h2 => resolve_any v IT B' e W h h2 (by omega) (by omega) (fun x hx => by obtain ⟨_, _, h3, h4, _⟩ := hiok x hx; exact ⟨h3, h4⟩)
  obtain ⟨F, hF⟩ : ∃ F, itLv e IT = F := ⟨_, rfl⟩
  simp only [hF] at hres
  rw [hF] at hFl
  rw [hF]
  obtain ⟨FR, hFR⟩ : ∃ FR, (IT.zip F).foldl (fillStep xs (b - a) e) L = FR := ⟨_, rfl⟩
  rw [hFR]
  obtain ⟨n, hn⟩ : ∃ n, n = xs.length := ⟨_, rfl⟩
  obtain ⟨DD, hDD⟩ : ∃ DD : Nat, (rdRun xs.length xs).2.2 = DD := ⟨_, rfl⟩
  rw [hDD, ← hn] at hit
  simp only [hDD] at hih hitW hvb hcl hq
  simp only [← hn] at hih hitW hvb hcl hq
  rw [← hn] at hL hx ha hb
  have e0 : (0 : Int) ≤ (e : Int) := by omega
  have HIT := Lib.hid hit
  have HIH := Lib.hid hih
  have HITW := Lib.hid hitW
  have HFL := Lib.hid hfl
  have HVB := Lib.hid hvb
  have HCL := Lib.hid hcl
  have HOK := Lib.hid hiok
  have HIC := Lib.hid hic
  have HN := Lib.hid hN
  have HFLn := Lib.hid hFl
  have HRES := Lib.hid hres
  have HFR := Lib.hid hFR
  have Hn := Lib.hid hn
  have HROW := Lib.hid hrow
  have HSH := Lib.hid hs
  have HLn := Lib.hid hL
  have HQ := Lib.hid hq
  obtain ⟨c0, c1, c2⟩ := hq.ct
  clear hit hih hitW hfl hvb hcl hiok hic hN hFl hres hFR hn hrow hs hL hq hIT hF hDD ht hTl
  go_enter Try.func51, Try.ntmps51
  go_wp2_with fail
  refine HIT.out.mono ?_
  rintro ex w1 ⟨r, rfl, hown, hb1⟩
  rw [← HN.out] at hown
  have hfrom := own_from hown
  have hown' := hown
  rw [HN.out] at hown'
  have hi1 := IsItems.of_own hown'
  have hlen1 := hown'.lt
  obtain ⟨ao4, c4, rfl, h4⟩ := hi1
  rw [← HN.out] at h4
  rw [← HN.out]
  have hr1 := HRES.out _ w1 _ (IsItems.of_own hown') (Nat.le_refl _)
  rw [← HN.out] at hr1
  have HR1 := Lib.hid hr1
  have H4 := Lib.hid h4
  have HFROM := Lib.hid hfrom
  have HB1 := Lib.hid hb1
  clear hown hown' hfrom hr1 h4 hb1 hlen1
  go_wp2_with fail
  refine HR1.out.mono ?_
  rintro ex w2 ⟨r2, rfl, hown2, hb2⟩
  have hfrom2 := own_from hown2
  have hown2' : w2.ownsRow w1.heap.size 3 1 r2 F.length (F.map (Value.int .i64)) := by rw [HFLn.out]; exact hown2
  have hi2 := IsInts.of_own hown2'
  obtain ⟨ao5, c5, rfl, h5⟩ := hi2
  rw [HFLn.out] at h5
  rw [HFLn.out]
  have hs1 := HB1.out.size
  have hs2 := hb2.size
  have H5 := Lib.hid h5
  have HFROM2 := Lib.hid hfrom2
  have HB2 := Lib.hid hb2
  clear hown2 hown2' hfrom2 h5 hb2
  have hz : (IT.zip F).length = N := by rw [List.length_zip, HFLn.out, ← HN.out, Nat.min_self]
  have HZ := Lib.hid hz
  clear hz
  go_wp2
  go_loopw [10, 11, 12, 13, 14, 15, 24] (fun _ _ _ _ _ _ iv wr => ∃ (k : Nat) (L' : List Int), k ≤ N ∧ iv = .int .i64 k ∧ L'.length = n ∧ FR = ((IT.zip F).drop k).foldl (fillStep xs (b - a) e) L' ∧ RowW g wr L' ∧ w2.grownBy wr (some g)) (fun _ _ _ _ _ _ iv _ => N - (intOf iv).toNat)
  case atStart => exact ⟨0, L, Nat.zero_le _, rfl, HLn.out, HFR.out.symm, (HB2.out.block g (by omega)).trans ((HB1.out.block g hgl).trans HROW.out), World.grownBy.refl _ _⟩
  case round =>
    obtain ⟨k, L', hk, rfl, hLl, hfr, hrw, hgr⟩ := hrel
    have k0 : (0 : Int) ≤ (k : Int) := by omega
    by_cases hlt : k < N
    · have hx : IT[k]? = some (IT[k]'(by have := HN.out; omega)) := List.getElem?_eq_getElem _
      obtain ⟨x, hx'⟩ : ∃ x, IT[k]'(by have := HN.out; omega) = x := ⟨_, rfl⟩
      rw [hx'] at hx
      have hxm : x ∈ IT := by rw [← hx']; exact List.getElem_mem _
      have hok := HOK.out x hxm
      obtain ⟨g4, o4, rfl, hg4, hcl4⟩ := H4.out (by omega)
      have hg4T := HFROM.out g4 rfl
      obtain ⟨g5, o5, rfl, hg5, hcl5⟩ := H5.out (by omega)
      have hg5T := HFROM2.out g5 rfl
      have hfk : F[k]? = some (F.getD k 0) := by
        have : k < F.length := by rw [HFLn.out]; exact hlt
        simp [List.getD, this]
      obtain ⟨q0, q1, q2⟩ := hcl4 k x hx
      have q5 := hcl5 k hlt
      have hzd : (IT.zip F).drop k = (x, F.getD k 0) :: (IT.zip F).drop (k + 1) := by
        have hlt' : k < (IT.zip F).length := by rw [HZ.out]; exact hlt
        rw [List.drop_eq_getElem_cons hlt']
        congr 1
        have : (IT.zip F)[k]? = some (x, F.getD k 0) := by rw [List.getElem?_zip_eq_some]; exact ⟨hx, hfk⟩
        rw [List.getElem?_eq_getElem hlt'] at this
        exact Option.some.inj this
      rw [hzd, List.foldl_cons] at hfr
      have hne4 : some g4 ≠ some g := by intro e; cases e; omega
      have hne5 : some g5 ≠ some g := by intro e; cases e; omega
      have c40 := hgr.cell ((HB2.out.cell (p := ⟨g4, o4 + k * 3, none⟩) hg4).trans q0) hne4
      have c41 := hgr.cell ((HB2.out.cell (p := ⟨g4, o4 + k * 3 + 1, none⟩) hg4).trans q1) hne4
      have c42 := hgr.cell ((HB2.out.cell (p := ⟨g4, o4 + k * 3 + 2, none⟩) hg4).trans q2) hne4
      have c50 := hgr.cell q5 hne5
      obtain ⟨lp1, lp2, lp3⟩ := HQ.out.lt
      have hq2 : SeqW g pt po ps n ao ca aoe cae DD w2 := HQ.out.grown ((below_grown HB1.out (Nat.le_refl _)).trans (below_grown HB2.out (Nat.le_refl _))) h1 h2 h3
      have hqr := hq2.grown hgr h1 h2 h3
      obtain ⟨lq1, lq2, lq3⟩ := hqr.lt
      have hfk2 : F.getD k 0 = F.getD k 0 := rfl
      obtain ⟨fk, hfk'⟩ : ∃ d, F.getD k 0 = d := ⟨_, rfl⟩
      rw [hfk'] at c50 hfr
      obtain ⟨x0, x1, x2⟩ := x
      dsimp only at c40 c41 c42 hok
      obtain ⟨ha0, hb0, _, _, hkind⟩ := hok
      dsimp only at ha0 hb0 hkind
      have hgw : g < wr.heap.size := hrw.lt
      have HGWL := Lib.hid hgw
      have hX := hrw.alloc (.cells #[.int .i64 x0, .int .i64 x1, .int .i64 x2] 73)
      have hqX : SeqW g pt po ps n ao ca aoe cae DD (wr.alloc (.cells #[.int .i64 x0, .int .i64 x1, .int .i64 x2] 73)) := hqr.grown (grown_alloc (World.grownBy.refl _ _) _) h1 h2 h3
      have p1 := hqX.co
      have f0 := hX.cell (i := x0) (by omega)
      have f1 := hX.frozen x0
      have hW1 := hX.set x0 fk
      have hXb : (wr.alloc (.cells #[.int .i64 x0, .int .i64 x1, .int .i64 x2] 73)).heap[wr.heap.size]? = some (.cells #[.int .i64 x0, .int .i64 x1, .int .i64 x2] 73 (0, 0)) := heap_alloc_new wr _
      have hqW1 : SeqW g pt po ps n ao ca aoe cae DD ((wr.alloc (.cells #[.int .i64 x0, .int .i64 x1, .int .i64 x2] 73)).setCell ⟨g, x0, none⟩ (.int .i64 fk)) := hqX.grown (grown_set (World.grownBy.refl _ _) _ _) h1 h2 h3
      have hW1b : ((wr.alloc (.cells #[.int .i64 x0, .int .i64 x1, .int .i64 x2] 73)).setCell ⟨g, x0, none⟩ (.int .i64 fk)).heap[wr.heap.size]? = some (.cells #[.int .i64 x0, .int .i64 x1, .int .i64 x2] 73 (0, 0)) := by
        rw [Below.heap_setCell _ _ _ _ (by show wr.heap.size ≠ g; omega)]
        exact hXb
      have m0 : ((wr.alloc (.cells #[.int .i64 x0, .int .i64 x1, .int .i64 x2] 73)).setCell ⟨g, x0, none⟩ (.int .i64 fk)).cell? ⟨wr.heap.size, 0, none⟩ = some (.int .i64 x0) := by rw [Lib.cell_of_heap hW1b]; rfl
      have m1 : ((wr.alloc (.cells #[.int .i64 x0, .int .i64 x1, .int .i64 x2] 73)).setCell ⟨g, x0, none⟩ (.int .i64 fk)).cell? ⟨wr.heap.size, 1, none⟩ = some (.int .i64 x1) := by rw [Lib.cell_of_heap hW1b]; rfl
      have hgW1 := grown_set (grown_alloc hgr (.cells #[.int .i64 x0, .int .i64 x1, .int .i64 x2] 73)) x0 (.int .i64 fk)
      obtain ⟨t0, t1, t2⟩ := hqW1.ct
      have t5 := hqW1.co
      have hLs : (L'.set x0 fk).length = n := by rw [List.length_set]; exact hLl
      have HW1 := Lib.hid hW1
      have HGW1 := Lib.hid hgW1
      have HW1b := Lib.hid hW1b
      have HQW1 := Lib.hid hqW1
      have HFRK := Lib.hid hfr
      have HKIND := Lib.hid hkind
      have x00 : (0 : Int) ≤ (x0 : Int) := by omega
      have x10 : (0 : Int) ≤ (x1 : Int) := by omega
      have x0n : (x0 : Int) < (n : Int) := by omega
      have k1 : (k : Int) < (N : Int) := by omega
      clear hx hx' hxm hcl4 hcl5 q0 q1 q2 q5 hzd hfr hrw hgr hq2 hqr hfk hfk2 hX hgw hqX hW1 hXb hqW1 hW1b hgW1 hkind hfk'
      by_cases hlf : x1 = x0
      · have hfs : fillStep xs (b - a) e L' ((x0, x1, x2), fk) = L'.set x0 fk := by
          unfold fillStep
          rw [if_pos hlf]
        have hfr := HFRK.out
        rw [hfs] at hfr
        have HFR2 := Lib.hid hfr
        clear hfr hfs
        subst hlf
        go_wp2
        go_roundw
        case rel => exact ⟨k + 1, L'.set x1 fk, by omega, by go_num, hLs, HFR2.out, HW1.out, HGW1.out⟩
        case measure => simp [intOf] <;> omega
      · rcases HKIND.out with ⟨h6, _⟩ | ⟨h6, h7, h8, h9⟩
        · exact absurd h6 hlf
        · have hsh := HSH.out x0 ha0 hb0 h6
          have hnx := Hn.out
          have h9n : x1 ≤ n := by omega
          have h1b : x1 ≤ b := by omega
          have hfr := HFRK.out
          have hfs : fillStep xs (b - a) e L' ((x0, x1, x2), fk) = fillF xs (b - a) (x0 + 1) x1 (inner xs x0 e) ((L'.set x0 fk).set x1 fk) := by
            unfold fillStep
            rw [if_neg hlf]
          rw [hfs] at hfr
          have hfu := fun L2 => HFL.out x0 x1 (inner xs x0 e) L2 ha0 hb0 h1b (by rw [h7]; exact shut_inside (by omega) h6)
          rw [← hfu] at hfr
          have hiv : 0 ≤ inner xs x0 e ∧ inner xs x0 e ≤ e + 2 := by unfold inner; split <;> omega
          obtain ⟨e', he'⟩ : ∃ e' : Nat, inner xs x0 e = e' := ⟨(inner xs x0 e).toNat, by omega⟩
          have hodd := he'
          unfold inner at hodd
          rw [← h7] at hodd
          obtain ⟨od, hod⟩ : ∃ od : Bool, decide (xs.getD x0 0 = 8295 ∨ (xs.getD x0 0 = 8296 ∧ dirV xs (x0 + 1) x1 = 2)) = od := ⟨_, rfl⟩
          have hodd : (e' : Int) = if od then (e : Int) + 1 + (e : Int) % 2 else (e : Int) + 2 - (e : Int) % 2 := by
            rw [← hodd, ← hod]
            simp only [decide_eq_true_eq]
          rw [he'] at hfr
          have HFR2 := Lib.hid hfr
          have hmin : min (x1 : Int) (n : Int) = (x1 : Int) := by omega
          have hcast : ((x0 + 1 : Nat) : Int) = (x0 : Int) + 1 := by omega
          have hbW : ∀ W : World, w2.grownBy W (some g) → Below B w W := fun W h => (HB1.out.mono (by omega)).trans ((HB2.out.mono (by omega)).trans (grown_below h hBg (by omega)))
          have hitm : ∀ W, w2.grownBy W (some g) → Calls Try.prog 42 #[.agg #[.slice ao n ca, .slice aoe n cae, .int .i64 DD], .int .i64 ((x0 : Int) + 1), .int .i64 x1] W fun ex w' => ∃ r, ex = .returned r ∧ w'.ownsRow W.heap.size 73 3 r (items xs (x0 + 1) x1).length (flat3 (items xs (x0 + 1) x1)) ∧ Below W.heap.size W w' := by
            intro W hW
            have := HITW.out W (x0 + 1) x1 (HVB.out W (hbW W hW)) (by have := hW.size; omega) (by omega) (by omega)
            rw [hcast] at this
            exact this
          have hseq : ∀ W L2, w2.grownBy W (some g) → SeqW g pt po ps n ao ca aoe cae DD W → RowW g W L2 → L2.length = n → Calls Try.prog 51 #[.int .i64 ((x0 : Int) + 1), .int .i64 x1, .int .i64 e', .pointer (some ⟨pt, 0, none⟩), .pointer (some ⟨po, 0, none⟩), .pointer (some ⟨ps, 0, none⟩)] W (fun x w' => x = .returned (.tuple #[]) ∧ RowW g w' (fillF xs (x1 - (x0 + 1) + 1) (x0 + 1) x1 e' L2) ∧ W.grownBy w' (some g)) := by
            intro W L2 hW hQ hR hl
            have := HIH.out x0 x1 e' L2 W ha0 hb0 (by omega) h1b h6 h7 (by omega) hl (HVB.out W (hbW W hW)) hQ hR
            rw [hcast] at this
            exact this
          obtain ⟨bx, ox, rfl, hbx, hcx⟩ := HCL.out (by omega)
          have hbxW : ∀ W, w2.grownBy W (some g) → W.cell? ⟨bx, ox + x0, none⟩ = some (.int .i64 (xs.getD x0 0)) := fun W hW => ((hbW W hW).cell (p := ⟨bx, ox + x0, none⟩) hbx).trans (hcx x0 (by omega))
          have HITM := Lib.hid hitm
          have HSEQ := Lib.hid hseq
          have HBXW := Lib.hid hbxW
          have HODD := Lib.hid hodd
          have HOD := Lib.hid hod
          obtain ⟨cx, hcx'⟩ : ∃ c, xs.getD x0 0 = c := ⟨_, rfl⟩
          have HCX := Lib.hid hcx'
          clear hfr hfs hfu hiv he' hodd hod hcast hbW hitm hseq hbxW hcx hsh hnx hcx' h7 h9 h6
          by_cases hxn : x1 < n
          · skip
            have x1n : (x1 : Int) < (n : Int) := by omega
            have f2 := HW1.out.cell (i := x1) (by omega)
            have f3 := HW1.out.frozen x1
            have hW2 := HW1.out.set x1 fk
            have hgW2 := grown_set HGW1.out x1 (.int .i64 fk)
            have hqW2 : SeqW g pt po ps n (some ⟨bx, ox, none⟩) ca aoe cae DD (((wr.alloc (.cells #[.int .i64 x0, .int .i64 x1, .int .i64 x2] 73)).setCell ⟨g, x0, none⟩ (.int .i64 fk)).setCell ⟨g, x1, none⟩ (.int .i64 fk)) := HQW1.out.grown (grown_set (World.grownBy.refl _ _) _ _) h1 h2 h3
            have hW2b : (((wr.alloc (.cells #[.int .i64 x0, .int .i64 x1, .int .i64 x2] 73)).setCell ⟨g, x0, none⟩ (.int .i64 fk)).setCell ⟨g, x1, none⟩ (.int .i64 fk)).heap[wr.heap.size]? = some (.cells #[.int .i64 x0, .int .i64 x1, .int .i64 x2] 73 (0, 0)) := by
              rw [Below.heap_setCell _ _ _ _ (by show wr.heap.size ≠ g; have := HGWL.out; omega)]
              exact HW1b.out
            have hls2 : ((L'.set x0 fk).set x1 fk).length = n := by rw [List.length_set]; exact hLs
            have HW2 := Lib.hid hW2
            have HGW2 := Lib.hid hgW2
            have HQW2 := Lib.hid hqW2
            have HW2b := Lib.hid hW2b
            have HFIN := HFR2
            clear hW2 hgW2 hqW2 hW2b
            have t6 := HBXW.out _ HGW2.out
            rw [HCX.out] at t6
            obtain ⟨t7, t8, t9⟩ := HQW2.out.ct
            have t10 := HQW2.out.cq
            have m4 : (((wr.alloc (.cells #[.int .i64 x0, .int .i64 x1, .int .i64 x2] 73)).setCell ⟨g, x0, none⟩ (.int .i64 fk)).setCell ⟨g, x1, none⟩ (.int .i64 fk)).cell? ⟨wr.heap.size, 0, none⟩ = some (.int .i64 x0) := by rw [Lib.cell_of_heap HW2b.out]; rfl
            have m5 : (((wr.alloc (.cells #[.int .i64 x0, .int .i64 x1, .int .i64 x2] 73)).setCell ⟨g, x0, none⟩ (.int .i64 fk)).setCell ⟨g, x1, none⟩ (.int .i64 fk)).cell? ⟨wr.heap.size, 1, none⟩ = some (.int .i64 x1) := by rw [Lib.cell_of_heap HW2b.out]; rfl
            go_upto_region 12 with fail
            go_cut [86] (fun ov wx => ov = .bool od ∧ Below (((wr.alloc (.cells #[.int .i64 x0, .int .i64 x1, .int .i64 x2] 73)).setCell ⟨g, x0, none⟩ (.int .i64 fk)).setCell ⟨g, x1, none⟩ (.int .i64 fk)).heap.size (((wr.alloc (.cells #[.int .i64 x0, .int .i64 x1, .int .i64 x2] 73)).setCell ⟨g, x0, none⟩ (.int .i64 fk)).setCell ⟨g, x1, none⟩ (.int .i64 fk)) wx)
            case first =>
              have hod := HOD.out
              rw [HCX.out] at hod
              by_cases h5 : cx = 8295
              · rw [decide_eq_true (.inl h5)] at hod
                subst h5
                subst hod
                go_wp2_with fail
                go_meet
                exact ⟨rfl, Below.refl _ _⟩
              · have h5b : (cx == 8295) = false := by simp [h5]
                by_cases h6 : cx = 8296
                · have hit := HITM.out _ HGW2.out
                  have HI := Lib.hid hit
                  subst h6
                  go_wp2_with fail
                  refine HI.out.mono ?_
                  rintro ex w5 ⟨r5, rfl, ho5, hb5⟩
                  have hil5 := (items_ok (xs := xs) (b := x1) (by have := Hn.out; omega) (x1 - (x0 + 1)) (x0 + 1) (Nat.le_refl _)).1
                  have hd := bdirection_any _ _ _ w5 (IsItems.of_own ho5) (Nat.le_refl _) (by omega)
                  have HD := Lib.hid hd
                  have HB5 := Lib.hid hb5
                  clear hit ho5 hd hb5
                  obtain ⟨dv, hdv⟩ : ∃ d, dirI (clsOf (items xs (x0 + 1) x1)) = d := ⟨_, rfl⟩
                  have hod2 : od = (dv == 2) := by
                    rw [← hod, ← hdv]
                    have : dirV xs (x0 + 1) x1 = dirI (clsOf (items xs (x0 + 1) x1)) := rfl
                    rw [this, Bool.eq_iff_iff, decide_eq_true_eq, beq_iff_eq]
                    constructor
                    · rintro (h | h)
                      · exact absurd h (by decide)
                      · exact h.2
                    · intro h
                      exact .inr ⟨trivial, h⟩
                  go_wp2_with fail
                  refine HD.out.mono ?_
                  rintro ex w6 ⟨rfl, hb6⟩
                  have hb56 := HB5.out.trans (hb6.mono HB5.out.size)
                  rw [hdv]
                  have HB56 := Lib.hid hb56
                  clear hb6 hb56 hod hdv
                  go_wp2_with fail
                  go_meet
                  exact ⟨by rw [hod2], HB56.out⟩
                · rw [decide_eq_false (by omega)] at hod
                  have h6b : (cx == 8296) = false := by simp [h6]
                  subst hod
                  go_wp2_with fail
                  go_meet
                  exact ⟨rfl, Below.refl _ _⟩
            case rest =>
              obtain ⟨rfl, hbc⟩ := hcut
              have hgc : (((wr.alloc (.cells #[.int .i64 x0, .int .i64 x1, .int .i64 x2] 73)).setCell ⟨g, x0, none⟩ (.int .i64 fk)).setCell ⟨g, x1, none⟩ (.int .i64 fk)).grownBy wc (some g) := below_grown hbc (Nat.le_refl _)
              have hgwc := HGW2.out.trans hgc
              have hqc := HQW2.out.grown hgc h1 h2 h3
              have hrc : RowW g wc ((L'.set x0 fk).set x1 fk) := (hbc.block g HW2.out.lt).trans HW2.out
              have hwbc := (hbc.block wr.heap.size (Array.getElem?_eq_some_iff.1 HW2b.out).1).trans HW2b.out
              have m6 : wc.cell? ⟨wr.heap.size, 0, none⟩ = some (.int .i64 x0) := by rw [Lib.cell_of_heap hwbc]; rfl
              have t11 := hqc.cq
              have hsq := HSEQ.out wc _ hgwc hqc hrc (hls2)
              have hodd := HODD.out
              have HSQ := Lib.hid hsq
              have HGC := Lib.hid hgwc
              have e1 : (e : Int).tmod 2 = (e : Int) % 2 := Int.tmod_eq_emod_of_nonneg e0
              have hem := mod_two (e : Int)
              clear hsq hgwc hqc hrc hwbc hgc hbc
              cases od
              · rw [if_neg (by decide)] at hodd
                have hf7 := HFIN.out
                rw [hodd] at HSQ hf7
                have HF7 := Lib.hid hf7
                clear hodd hf7
                go_wp2_with (go_at_call 51; refine HSQ.out.mono ?_; rintro ex w7 ⟨rfl, hr7, hg7⟩)
                go_roundw
                case rel =>
                  exact ⟨k + 1, _, by omega, by go_num, by rw [fillF_len]; exact (hls2), HF7.out, hr7, HGC.out.trans hg7⟩
                case measure => simp [intOf] <;> omega
              · rw [if_pos rfl] at hodd
                have hf7 := HFIN.out
                rw [hodd] at HSQ hf7
                have HF7 := Lib.hid hf7
                clear hodd hf7
                go_wp2_with (go_at_call 51; refine HSQ.out.mono ?_; rintro ex w7 ⟨rfl, hr7, hg7⟩)
                go_roundw
                case rel =>
                  exact ⟨k + 1, _, by omega, by go_num, by rw [fillF_len]; exact (hls2), HF7.out, hr7, HGC.out.trans hg7⟩
                case measure => simp [intOf] <;> omega
          · skip
            have x1n : (n : Int) ≤ (x1 : Int) := by omega
            have hx1 : x1 = n := by omega
            have hnop : (L'.set x0 fk).set x1 fk = L'.set x0 fk := List.set_eq_of_length_le (by omega)
            have hfin := HFR2.out
            rw [hnop] at hfin
            have HFIN := Lib.hid hfin
            clear hfin hnop hx1
            have t6 := HBXW.out _ HGW1.out
            rw [HCX.out] at t6
            obtain ⟨t7, t8, t9⟩ := HQW1.out.ct
            have t10 := HQW1.out.cq
            have m4 : ((wr.alloc (.cells #[.int .i64 x0, .int .i64 x1, .int .i64 x2] 73)).setCell ⟨g, x0, none⟩ (.int .i64 fk)).cell? ⟨wr.heap.size, 0, none⟩ = some (.int .i64 x0) := by rw [Lib.cell_of_heap HW1b.out]; rfl
            have m5 : ((wr.alloc (.cells #[.int .i64 x0, .int .i64 x1, .int .i64 x2] 73)).setCell ⟨g, x0, none⟩ (.int .i64 fk)).cell? ⟨wr.heap.size, 1, none⟩ = some (.int .i64 x1) := by rw [Lib.cell_of_heap HW1b.out]; rfl
            go_upto_region 12 with fail
            go_cut [86] (fun ov wx => ov = .bool od ∧ Below ((wr.alloc (.cells #[.int .i64 x0, .int .i64 x1, .int .i64 x2] 73)).setCell ⟨g, x0, none⟩ (.int .i64 fk)).heap.size ((wr.alloc (.cells #[.int .i64 x0, .int .i64 x1, .int .i64 x2] 73)).setCell ⟨g, x0, none⟩ (.int .i64 fk)) wx)
            case first =>
              have hod := HOD.out
              rw [HCX.out] at hod
              by_cases h5 : cx = 8295
              · rw [decide_eq_true (.inl h5)] at hod
                subst h5
                subst hod
                go_wp2_with fail
                go_meet
                exact ⟨rfl, Below.refl _ _⟩
              · have h5b : (cx == 8295) = false := by simp [h5]
                by_cases h6 : cx = 8296
                · have hit := HITM.out _ HGW1.out
                  have HI := Lib.hid hit
                  subst h6
                  go_wp2_with fail
                  refine HI.out.mono ?_
                  rintro ex w5 ⟨r5, rfl, ho5, hb5⟩
                  have hil5 := (items_ok (xs := xs) (b := x1) (by have := Hn.out; omega) (x1 - (x0 + 1)) (x0 + 1) (Nat.le_refl _)).1
                  have hd := bdirection_any _ _ _ w5 (IsItems.of_own ho5) (Nat.le_refl _) (by omega)
                  have HD := Lib.hid hd
                  have HB5 := Lib.hid hb5
                  clear hit ho5 hd hb5
                  obtain ⟨dv, hdv⟩ : ∃ d, dirI (clsOf (items xs (x0 + 1) x1)) = d := ⟨_, rfl⟩
                  have hod2 : od = (dv == 2) := by
                    rw [← hod, ← hdv]
                    have : dirV xs (x0 + 1) x1 = dirI (clsOf (items xs (x0 + 1) x1)) := rfl
                    rw [this, Bool.eq_iff_iff, decide_eq_true_eq, beq_iff_eq]
                    constructor
                    · rintro (h | h)
                      · exact absurd h (by decide)
                      · exact h.2
                    · intro h
                      exact .inr ⟨trivial, h⟩
                  go_wp2_with fail
                  refine HD.out.mono ?_
                  rintro ex w6 ⟨rfl, hb6⟩
                  have hb56 := HB5.out.trans (hb6.mono HB5.out.size)
                  rw [hdv]
                  have HB56 := Lib.hid hb56
                  clear hb6 hb56 hod hdv
                  go_wp2_with fail
                  go_meet
                  exact ⟨by rw [hod2], HB56.out⟩
                · rw [decide_eq_false (by omega)] at hod
                  have h6b : (cx == 8296) = false := by simp [h6]
                  subst hod
                  go_wp2_with fail
                  go_meet
                  exact ⟨rfl, Below.refl _ _⟩
            case rest =>
              obtain ⟨rfl, hbc⟩ := hcut
              have hgc : ((wr.alloc (.cells #[.int .i64 x0, .int .i64 x1, .int .i64 x2] 73)).setCell ⟨g, x0, none⟩ (.int .i64 fk)).grownBy wc (some g) := below_grown hbc (Nat.le_refl _)
              have hgwc := HGW1.out.trans hgc
              have hqc := HQW1.out.grown hgc h1 h2 h3
              have hrc : RowW g wc (L'.set x0 fk) := (hbc.block g HW1.out.lt).trans HW1.out
              have hwbc := (hbc.block wr.heap.size (Array.getElem?_eq_some_iff.1 HW1b.out).1).trans HW1b.out
              have m6 : wc.cell? ⟨wr.heap.size, 0, none⟩ = some (.int .i64 x0) := by rw [Lib.cell_of_heap hwbc]; rfl
              have t11 := hqc.cq
              have hsq := HSEQ.out wc _ hgwc hqc hrc (hLs)
              have hodd := HODD.out
              have HSQ := Lib.hid hsq
              have HGC := Lib.hid hgwc
              have e1 : (e : Int).tmod 2 = (e : Int) % 2 := Int.tmod_eq_emod_of_nonneg e0
              have hem := mod_two (e : Int)
              clear hsq hgwc hqc hrc hwbc hgc hbc
              cases od
              · rw [if_neg (by decide)] at hodd
                have hf7 := HFIN.out
                rw [hodd] at HSQ hf7
                have HF7 := Lib.hid hf7
                clear hodd hf7
                go_wp2_with (go_at_call 51; refine HSQ.out.mono ?_; rintro ex w7 ⟨rfl, hr7, hg7⟩)
                go_roundw
                case rel =>
                  exact ⟨k + 1, _, by omega, by go_num, by rw [fillF_len]; exact (hLs), HF7.out, hr7, HGC.out.trans hg7⟩
                case measure => simp [intOf] <;> omega
              · rw [if_pos rfl] at hodd
                have hf7 := HFIN.out
                rw [hodd] at HSQ hf7
                have HF7 := Lib.hid hf7
                clear hodd hf7
                go_wp2_with (go_at_call 51; refine HSQ.out.mono ?_; rintro ex w7 ⟨rfl, hr7, hg7⟩)
                go_roundw
                case rel =>
                  exact ⟨k + 1, _, by omega, by go_num, by rw [fillF_len]; exact (hLs), HF7.out, hr7, HGC.out.trans hg7⟩
                case measure => simp [intOf] <;> omega
    · have hkn : k = N := by omega
      have hd : (IT.zip F).drop k = [] := List.drop_eq_nil_of_le (by rw [HZ.out]; omega)
      rw [hd] at hfr
      have hfr : FR = L' := hfr
      have HW := Lib.hid hrw
      have HG := Lib.hid hgr
      have HF := Lib.hid hfr
      have k1 : (N : Int) ≤ (k : Int) := by omega
      clear hd hfr hrw hgr
      go_wp2
      go_end0
      refine ⟨rfl, by rw [HF.out]; exact HW.out, ?_⟩
      exact (below_grown HB1.out (Nat.le_refl _)).trans ((below_grown HB2.out (Nat.le_refl _)).trans HG.out)
end Go.Proofs.Ytgefbagojghmeaa
