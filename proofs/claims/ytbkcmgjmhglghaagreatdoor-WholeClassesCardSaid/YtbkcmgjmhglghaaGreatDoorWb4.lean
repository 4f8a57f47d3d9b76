/-
  decide.Automaton's closures.
-/
import Derived.Test.YtbkcmgjmhglghaaGreatDoorWb3
namespace Go.Proofs.YtbkcmgjmhglghaaGreatDoor
open Go.RowKit

/-- The states that are met: six trackers with small numbers. -/
def RdOK (s : RS) : Prop := s.1 < 5 ∧ s.2.length = 6 ∧ ∀ (i : Nat) (t : Tr), s.2[i]? = some t → 0 ≤ t.1 ∧ t.1 ≤ 101 ∧ 0 ≤ t.2 ∧ t.2 ≤ 101
theorem rdOK_mem {l : List Rel} (hl : ∀ r ∈ l, relB r = true) {s : RS} (h : s ∈ allRS l) : RdOK s := by
  obtain ⟨h1, h2⟩ := mem_allRS.1 h
  exact ⟨h1, allTs_len h2, fun i t ht => allTs_get hl h2 ht⟩
theorem rdV_13 {s : RS} (h : RdOK s) : (rdC s).toArray.size = 13 := by rw [List.size_toArray, rdC_len h.2.1]
set_option maxRecDepth 100000 in
set_option maxHeartbeats 1600000 in
theorem aut1_any (s : RS) (gl : Nat) (v : Value) (l : List Rel) (c B : Nat) (w : World) (hs : RdOK s) (hs2 : RdOK (rdStep l s c)) (hgl : w.cell? ⟨gl, 0, none⟩ = some v) (hv : IsRels w B v l) (hB : B ≤ w.heap.size) (hl : ∀ r ∈ l, relB r = true) (hl6 : l.length ≤ 6) (hc : c ≤ 10) :
    Calls Tryz.prog 28 #[rdV s, .int .i64 c, .pointer (some ⟨gl, 0, none⟩)] w fun e w' => e = .returned (rdV (rdStep l s c)) ∧ Below w.heap.size w w' := by
  have hst := fun W (hb : Below w.heap.size w W) => step_any s v l c B W hs.2.1 (hv.below (hb.mono hB)) (Nat.le_trans hB hb.size) hl hl6 hs.2.2 hc hs.1
  unfold rdV at hst ⊢
  obtain ⟨A, hA⟩ : ∃ A, A = (rdC s).toArray := ⟨_, rfl⟩
  obtain ⟨R, hR⟩ : ∃ R, R = (rdC (rdStep l s c)).toArray := ⟨_, rfl⟩
  have hA13 : A.size = 13 := by rw [hA]; exact rdV_13 hs
  have hR13 : R.size = 13 := by rw [hR]; exact rdV_13 hs2
  have hR1 : R.all (·.oneCell') = true := by rw [hR]; exact rdC_one _
  rw [← hA, ← hR] at hst
  rw [← hA, ← hR]
  have HST := Lib.hid hst
  have H1C := Lib.hid hR1
  have H13A := Lib.hid hA13
  have H13R := Lib.hid hR13
  have hlt := World.block_lt_of_cell? w _ hgl
  simp only at hlt
  have HLT := Lib.hid hlt
  have HGL := Lib.hid hgl
  obtain ⟨ao, cap, hvv, _⟩ := hv
  clear hst hA hR hA13 hR13 hR1 hs hs2 hl hgl hlt
  go_enter Tryz.func28, Tryz.ntmps28
  go_upto_region 1 with fail
  obtain ⟨w1, hw1⟩ : ∃ w1, w1 = ((w.alloc (.cells A 73)).alloc (.cells #[.int .i64 0, .int .i64 0, .int .i64 0, .int .i64 0, .int .i64 0, .int .i64 0, .int .i64 0, .int .i64 0, .int .i64 0, .int .i64 0, .int .i64 0, .int .i64 0, .int .i64 0] 73)) := ⟨_, rfl⟩
  obtain ⟨Z, hZ⟩ : ∃ Z : Array Value, Z = #[.int .i64 0, .int .i64 0, .int .i64 0, .int .i64 0, .int .i64 0, .int .i64 0, .int .i64 0, .int .i64 0, .int .i64 0, .int .i64 0, .int .i64 0, .int .i64 0, .int .i64 0] := ⟨_, rfl⟩
  obtain ⟨p0, p1, pb, ps⟩ := alloc2 w A Z 73 73
  rw [hZ, ← hw1] at p0 p1 pb ps
  rw [← hZ] at p1
  rw [← hw1]
  have hz13 : Z.size = 13 := by rw [hZ]; rfl
  have cl := (pb.cell (p := ⟨gl, 0, none⟩) HLT.out).trans HGL.out
  have P0 := Lib.hid p0
  have P1 := Lib.hid p1
  have PB := Lib.hid pb
  have PS := Lib.hid ps
  have HZ13 := Lib.hid hz13
  clear hw1 hZ p0 p1 pb ps hz13
  subst hvv
  go_wp2_with (first
    | (refine wpList_load_row rfl 73 _ rfl w.heap.size rfl _ _ _ _ P0.out Tryz.underlying73 rfl (by rw [Tryz.infoRd, H13A.out]) ?_)
    | (go_at_call 29; refine (HST.out _ PB.out).mono ?_; rintro e w5 ⟨rfl, hb5⟩; have HB5 := Lib.hid hb5; have HZ5 := Lib.hid ((hb5.block (w.heap.size + 1) (by have := PS.out; omega)).trans P1.out); clear hb5)
    | (refine wpList_store_row rfl 73 _ _ rfl (w.heap.size + 1) _ rfl rfl 73 Z HZ5.out (by rw [Tryz.infoRd, H13R.out]) (by rw [HZ13.out, H13R.out]) H1C.out ?_))
  refine bodyPost_ret (results_cell_row rfl _ _ (w.heap.size + 1) _ _ _ _ rfl (setRow_heap _ _ _ _ _ _ HZ5.out) Tryz.underlying73 rfl (by rw [Tryz.infoRd, H13R.out])) rfl ?_
  exact ⟨rfl, below_setRow (PB.out.trans (HB5.out.mono PB.out.size)) (by omega) _⟩
theorem rdT_b {g i gl b k : Nat} {t1 t2 : Int} {lv v0 v1 v2 v3 : Value} {w W : World} (h : W.cell? ⟨g, 1 + i * 2, none⟩ = some (.int .i64 t1) ∧ W.cell? ⟨g, 1 + i * 2 + 1, none⟩ = some (.int .i64 t2) ∧ W.cell? ⟨gl, 0, none⟩ = some lv ∧ W.cell? ⟨b, k, none⟩ = some v0 ∧ W.cell? ⟨b, k + 1, none⟩ = some v1 ∧ W.cell? ⟨b, k + 2, none⟩ = some v2 ∧ W.cell? ⟨b, k + 3, none⟩ = some v3 ∧ Below w.heap.size w W) : Below w.heap.size w W := h.2.2.2.2.2.2.2
theorem rdT_step {g i gl b k : Nat} {t1 t2 : Int} {lv v0 v1 v2 v3 : Value} {w W w8 : World} (h : W.cell? ⟨g, 1 + i * 2, none⟩ = some (.int .i64 t1) ∧ W.cell? ⟨g, 1 + i * 2 + 1, none⟩ = some (.int .i64 t2) ∧ W.cell? ⟨gl, 0, none⟩ = some lv ∧ W.cell? ⟨b, k, none⟩ = some v0 ∧ W.cell? ⟨b, k + 1, none⟩ = some v1 ∧ W.cell? ⟨b, k + 2, none⟩ = some v2 ∧ W.cell? ⟨b, k + 3, none⟩ = some v3 ∧ Below w.heap.size w W) (hb : Below W.heap.size W w8) : w8.cell? ⟨g, 1 + i * 2, none⟩ = some (.int .i64 t1) ∧ w8.cell? ⟨g, 1 + i * 2 + 1, none⟩ = some (.int .i64 t2) ∧ w8.cell? ⟨gl, 0, none⟩ = some lv ∧ w8.cell? ⟨b, k, none⟩ = some v0 ∧ w8.cell? ⟨b, k + 1, none⟩ = some v1 ∧ w8.cell? ⟨b, k + 2, none⟩ = some v2 ∧ w8.cell? ⟨b, k + 3, none⟩ = some v3 ∧ Below w.heap.size w w8 := by
  obtain ⟨h0, h1, h2, h3, h4, h5, h6, h7⟩ := h
  have c := fun p u (h : W.cell? p = some u) => (hb.cell (p := p) (World.block_lt_of_cell? W _ h)).trans h
  exact ⟨c _ _ h0, c _ _ h1, c _ _ h2, c _ _ h3, c _ _ h4, c _ _ h5, c _ _ h6, h7.trans (hb.mono h7.size)⟩
theorem ci2 {W : World} {g : Nat} {s : RS} (h : RdRow W g s) {i : Nat} (hi : i < s.2.length) : ∃ t1 t2, s.2[i]? = some (t1, t2) ∧ W.cell? ⟨g, 1 + i * 2, none⟩ = some (.int .i64 t1) ∧ W.cell? ⟨g, 1 + i * 2 + 1, none⟩ = some (.int .i64 t2) :=
  ⟨_, _, List.getElem?_eq_getElem hi, h.ci (List.getElem?_eq_getElem hi)⟩
set_option maxRecDepth 100000 in
set_option maxHeartbeats 1600000 in
theorem aut21_any (s : RS) (g gl : Nat) (v : Value) (l : List Rel) (i B : Nat) (w : World) (hs : RdOK s) (hg : RdRow w g s) (hgl : w.cell? ⟨gl, 0, none⟩ = some v) (hv : IsRels w B v l) (hB : B ≤ w.heap.size) (hl : ∀ r ∈ l, relB r = true) (hl6 : l.length ≤ 6) (hi : i < l.length) :
    Calls Tryz.prog 32 #[.int .i64 i, .pointer (some ⟨g, 0, none⟩), .pointer (some ⟨gl, 0, none⟩)] w fun e w' => e = .returned (.bool (trHolds (l.getD i ⟨0, 0, false, []⟩) (s.2.getD i (0, 0)))) ∧ Below w.heap.size w w' := by
  have h6 := hs.2.1
  obtain ⟨t1, t2, ht, c1, c2⟩ := ci2 hg (i := i) (by omega)
  have hv' := hv
  obtain ⟨ao, cap, rfl, hc⟩ := hv'
  obtain ⟨b, o, rfl, hb, hcl⟩ := hc (by omega)
  obtain ⟨r, hr⟩ : ∃ r, l[i]? = some r := ⟨_, List.getElem?_eq_getElem hi⟩
  obtain ⟨e0, e1, e2, sv, e3, hsp⟩ := hcl i r hr
  have hrb := hl r (List.mem_of_getElem? hr)
  have e4 : l.getD i ⟨0, 0, false, []⟩ = r := by rw [List.getD_eq_getElem?_getD, hr]; rfl
  have e5 : s.2.getD i (0, 0) = (t1, t2) := by rw [List.getD_eq_getElem?_getD, ht]; rfl
  rw [e4, e5]
  obtain ⟨n, hn⟩ : ∃ n, n = l.length := ⟨_, rfl⟩
  rw [← hn] at hi hgl hl6
  obtain ⟨op, md, nt, sp⟩ := r
  have hth := fun W (hW : Below w.heap.size w W) => trHolds_any op md nt sv sp t1 t2 B W (hsp.below (hW.mono hB)) (Nat.le_trans hB hW.size) hrb
  obtain ⟨aS, cS, rfl, _⟩ := hsp
  have i0 : (0 : Int) ≤ (i : Int) := by omega
  have i1 : (i : Int) < (n : Int) := by omega
  have i6 : (i : Int) < 6 := by omega
  obtain ⟨T, hT⟩ : ∃ T, T = trHolds ⟨op, md, nt, sp⟩ (t1, t2) := ⟨_, rfl⟩
  rw [← hT] at hth
  rw [← hT]
  obtain ⟨m, hm⟩ : ∃ m, m = sp.length := ⟨_, rfl⟩
  simp only at e0 e1 e2 e3 hth
  rw [← hm] at e3 hth
  have HTH := Lib.hid hth
  clear hs hg hv hc hcl hl hr hrb e4 e5 hn hT hm hth ht hB hb
  go_enter Tryz.func32, Tryz.ntmps32
  go_upto_region 1 with fail
  go_region_held3 (fun W => W.cell? ⟨g, 1 + i * 2, none⟩ = some (.int .i64 t1) ∧ W.cell? ⟨g, 1 + i * 2 + 1, none⟩ = some (.int .i64 t2) ∧ W.cell? ⟨gl, 0, none⟩ = some (.slice (some ⟨b, o, none⟩) n cap) ∧ W.cell? ⟨b, o + i * 4, none⟩ = some (.int .i64 op) ∧ W.cell? ⟨b, o + i * 4 + 1, none⟩ = some (.int .i64 md) ∧ W.cell? ⟨b, o + i * 4 + 2, none⟩ = some (.bool nt) ∧ W.cell? ⟨b, o + i * 4 + 3, none⟩ = some (.slice aS m cS) ∧ Below w.heap.size w W) (first | assumption | exact ⟨c1, c2, hgl, e0, e1, e2, e3, Below.refl _ _⟩ | exact ⟨c1, c2, hgl, e0, e1, e2, e3, (Below.refl _ _).drew⟩)
    (first
      | (go_at_call 33; refine (HTH.out _ (rdT_b (by assumption))).mono ?_; rintro e w8 ⟨rfl, hb8⟩; have hS8 := rdT_step (by assumption) hb8))
  go_wp2
  go_ret
  exact ⟨rfl, hS8.2.2.2.2.2.2.2⟩
end Go.Proofs.YtbkcmgjmhglghaaGreatDoor
