/-
  decide.Total.
  decide.Disjoint.
-/
import Derived.Test.YtbkcmgjmhglghaaGreatDoorWi3
import Derived.OwnWalk
namespace Go.Proofs.YtbkcmgjmhglghaaGreatDoor
open Go.RowKit

/-- What Total tells. -/
def TotalP (cs : List Cnd) (w : World) (e : Ending) (w' : World) : Prop :=
  ∃ s t, e = .returned (.tuple #[.string s, .bool t, .int .i64 0]) ∧ Below w.heap.size w w' ∧ (t = true → ∀ x : Num, x.OK → ∃ c ∈ cs, condH c x = true)
set_option maxRecDepth 100000 in
set_option maxHeartbeats 1600000 in
theorem total_any (v : Value) (cs : List Cnd) (B : Nat) (w : World) (hv : IsConds w B v cs) (hB : B ≤ w.heap.size) (hc : ∀ c ∈ cs, condB c = true) (h10 : cs.length ≤ 10) (ht : Tab w) :
    Calls Tryz.prog 12 #[v] w (TotalP cs w) := by
  have hval := dvalid_any v cs B w hv hB hc h10
  have hse := fun W (hW : Below w.heap.size w W) => search_any v cs B W (hv.below (hW.mono hB)) (Nat.le_trans hB hW.size) hc h10 (ht.below hW ht.lt) 38 (fun _ _ => by kernel_rfl) (fun bs => bs.all fun b => !b) (total1_any cs.length h10 W)
  obtain ⟨ao, cap, hvv, _⟩ := hv
  obtain ⟨n, hn⟩ : ∃ n, n = cs.length := ⟨_, rfl⟩
  rw [← hn] at hvv
  have HVAL := Lib.hid hval
  have HSE := Lib.hid hse
  clear hval hse hc ht hn
  subst hvv
  go_enter Tryz.func12, Tryz.ntmps12
  go_wp2_with (first
    | (go_at_call 22; refine (HVAL.out).mono ?_; rintro e w5 ⟨rfl, hb5⟩; have HB5 := Lib.hid hb5; clear hb5)
    | (go_at_call 23; refine (HSE.out _ HB5.out).mono ?_; rintro e w6 ⟨s, ok, rfl, hb6, hh⟩))
  go_ret3
  refine ⟨s, !ok, rfl, HB5.out.trans (hb6.mono HB5.out.size), fun h x hx => ?_⟩
  have h1 := hh (by simpa using h) x hx
  refine Classical.byContradiction fun hno => ?_
  have h2 : ((cs.map fun c => condH c x).all fun b => !b) = true := by
    rw [List.all_eq_true]
    intro b hb
    obtain ⟨c, hc, rfl⟩ := List.mem_map.1 hb
    cases hcx : condH c x with
    | false => rfl
    | true => exact absurd ⟨c, hc, hcx⟩ hno
  rw [h2] at h1
  cases h1
section
variable {w : World} {B B' : Nat} {v : Value}
theorem IsSpans.mono {l : List Sp} (h : IsSpans w B v l) (hB : B ≤ B') : IsSpans w B' v l := h.imp hB fun _ _ _ h => h
theorem IsRels.mono {l : List Rel} (h : IsRels w B v l) (hB : B ≤ B') : IsRels w B' v l := h.imp hB fun b o _ hc i x hx => by
  obtain ⟨h1, h2, h3, sv, h4, h5⟩ := hc i x hx
  exact ⟨h1, h2, h3, sv, h4, h5.mono hB⟩
theorem IsCond.mono {l : Cnd} (h : IsCond w B v l) (hB : B ≤ B') : IsCond w B' v l := h.imp hB fun b o _ hc i x hx => by
  obtain ⟨rv, h1, h2⟩ := hc i x hx
  exact ⟨rv, h1, h2.mono hB⟩
end
theorem rulesAt {w : World} {B : Nat} {v : Value} {l : List Rul} (h : IsRules w B v l) : ∃ (ao : Option Addr) (cap : Nat) (cvs : Nat → Value), v = .slice ao l.length cap ∧ (∀ i r, l[i]? = some r → IsCond w B (cvs i) r.cond) ∧ (0 < l.length → ∃ b o, ao = some ⟨b, o, none⟩ ∧ b < B ∧ ∀ i r, l[i]? = some r → w.cell? ⟨b, o + i * 2, none⟩ = some (.string r.cls) ∧ w.cell? ⟨b, o + i * 2 + 1, none⟩ = some (cvs i)) := by
  obtain ⟨ao, cap, rfl, hc⟩ := h
  by_cases h0 : 0 < l.length
  · obtain ⟨b, o, rfl, hb, hh⟩ := hc h0
    have key : ∀ i, ∃ u, ∀ r, l[i]? = some r → w.cell? ⟨b, o + i * 2 + 1, none⟩ = some u ∧ IsCond w B u r.cond := fun i => by
      rcases hc' : l[i]? with _ | r
      · exact ⟨.bool false, fun r h => by cases h⟩
      · obtain ⟨_, u, h1, h2⟩ := hh i r hc'
        exact ⟨u, fun r' h => by cases h; exact ⟨h1, h2⟩⟩
    exact ⟨_, cap, fun i => Classical.choose (key i), rfl, fun i r hi => (Classical.choose_spec (key i) r hi).2, fun _ => ⟨b, o, rfl, hb, fun i r hi => ⟨(hh i r hi).1, (Classical.choose_spec (key i) r hi).1⟩⟩⟩
  · refine ⟨ao, cap, fun _ => .bool false, rfl, fun i c hi => ?_, fun h => absurd h h0⟩
    have := (List.getElem?_eq_some_iff.1 hi).1
    omega
/-- The conditions' slices in a row of one's own. -/
theorem own_conds {w : World} {base B : Nat} {e : TypeId} {v : Value} {n : Nat} {us : List Value} {cs : List Cnd} (h : w.ownsRow base e 1 v n us) (hn : n = cs.length) (hu : ∀ (i : Nat) (c : Cnd), cs[i]? = some c → ∃ u, us[i]? = some u ∧ IsCond w B u c) (hB : B ≤ w.heap.size) : IsConds w w.heap.size v cs := by
  have h' := h
  obtain ⟨hl, ⟨rfl, h0⟩ | ⟨g, cap, cur, rfl, hb, hg, _⟩⟩ := h'
  · exact ⟨none, 0, by rw [← hn, h0], fun h => by omega⟩
  · refine ⟨some ⟨g, 0, none⟩, cap, by rw [← hn], fun _ => ⟨g, 0, rfl, (Array.getElem?_eq_some_iff.1 hg).1, fun i c hc => ?_⟩⟩
    obtain ⟨u, h1, h2⟩ := hu i c hc
    refine ⟨u, ?_, h2.mono hB⟩
    rw [Nat.zero_add]
    exact (own_cells h h1).2.1
/-- Two conditions side by side. -/
theorem two_conds {w : World} {B h : Nat} {u1 u2 : Value} {c1 c2 : Cnd} {e : TypeId} (h1 : IsCond w B u1 c1) (h2 : IsCond w B u2 c2) (hB : B ≤ w.heap.size) (hg : w.heap[h]? = some (.cells #[u1, u2] e (0, 0))) : IsConds w w.heap.size (.slice (some ⟨h, 0, none⟩) 2 2) [c1, c2] := by
  refine ⟨_, 2, rfl, fun _ => ⟨h, 0, rfl, (Array.getElem?_eq_some_iff.1 hg).1, fun i c hc => ?_⟩⟩
  rw [Nat.zero_add]
  match i with
  | 0 =>
    simp at hc
    subst hc
    exact ⟨u1, by rw [Lib.cell_of_heap hg]; rfl, h1.mono hB⟩
  | 1 =>
    simp at hc
    subst hc
    exact ⟨u2, by rw [Lib.cell_of_heap hg]; rfl, h2.mono hB⟩
  | i + 2 => simp at hc
end Go.Proofs.YtbkcmgjmhglghaaGreatDoor
namespace Go.Proofs.YtbkcmgjmhglghaaGreatDoor
open Go.RowKit

theorem results_tmp4 {fn : Func} {t u v x : Tmp} (h : fn.results = #[.tmp t, .tmp u, .tmp v, .tmp x]) (tmps : Array Value) (P : Program) (w : World) :
    (results fn tmps).run P w = .ok (.tuple #[tmps.getD t undef, tmps.getD u undef, tmps.getD v undef, tmps.getD x undef]) w := by
  simp [results, h]
/-- No number fulfils both conditions. -/
def Apart (l : List Rul) (a b : Nat) : Prop := ∀ (ra rb : Rul), l[a]? = some ra → l[b]? = some rb → ∀ x : Num, x.OK → ¬ (condH ra.cond x = true ∧ condH rb.cond x = true)
theorem c2_step {W w8 w0 : World} {p1 p2 : Addr} {v1 v2 : Value} (h : W.cell? p1 = some v1 ∧ W.cell? p2 = some v2 ∧ Below w0.heap.size w0 W) (hb : Below W.heap.size W w8) : w8.cell? p1 = some v1 ∧ w8.cell? p2 = some v2 ∧ Below w0.heap.size w0 w8 := by
  obtain ⟨h1, h2, h9⟩ := h
  have c := fun p u (h : W.cell? p = some u) => (hb.cell (p := p) (World.block_lt_of_cell? W _ h)).trans h
  exact ⟨c _ _ h1, c _ _ h2, h9.trans (hb.mono h9.size)⟩
/-- What Disjoint tells. -/
def DisjP (l : List Rul) (w : World) (e : Ending) (w' : World) : Prop :=
  ∃ (i j : Nat) (s : ByteArray) (er : Nat), e = .returned (.tuple #[.int .i64 i, .int .i64 j, .string s, .int .i64 er]) ∧ Below w.heap.size w w' ∧ (er = 0 ∨ er = 19) ∧ (er = 0 → ∀ a b : Nat, a < b → b < l.length → Apart l a b)
theorem Tryz.infoCondT : (Tryz.prog.info? 32).map (fun i => (i.zero, i.size, i.bytes)) = some (some (.slice none 0 0), 1, 24) := by kernel_rfl
theorem range_snoc (f : Nat → Value) (i : Nat) : (List.range (i + 1)).map f = (List.range i).map f ++ [f i] := by rw [List.range_succ, List.map_append]; rfl
set_option maxRecDepth 100000 in
set_option maxHeartbeats 6400000 in
theorem disjoint_any (v : Value) (l : List Rul) (B : Nat) (w : World) (hv : IsRules w B v l) (hB : B ≤ w.heap.size) (hc : ∀ r ∈ l, condB r.cond = true) (h10 : l.length ≤ 10) (ht : Tab w) :
    Calls Tryz.prog 9 #[v] w (DisjP l w) := by
  obtain ⟨ao, cap, cvs, rfl, hcv, hq⟩ := rulesAt hv
  obtain ⟨n, hn⟩ : ∃ n, n = l.length := ⟨_, rfl⟩
  rw [← hn] at hq h10
  rw [← hn]
  obtain ⟨j0, hj, hz0, hz1, hz2⟩ := info_parts Tryz.infoCondT
  have HCV := Lib.hid hcv
  have HQ := Lib.hid hq
  have HN := Lib.hid hn
  have HC := Lib.hid hc
  have HB := Lib.hid hB
  have HT := Lib.hid ht
  clear hv hcv hq hn hc hB ht
  go_enter Tryz.func9, Tryz.ntmps9
  go_wp2
  go_loopw [6, 15] (fun cv iv wr => ∃ i : Nat, i ≤ n ∧ iv = .int .i64 i ∧ wr.ownsRow w.heap.size 32 1 cv i ((List.range i).map cvs) ∧ Below w.heap.size w wr) (fun _ iv _ => n - (intOf iv).toNat)
  case atStart => exact ⟨0, Nat.zero_le _, rfl, World.ownsRow_nil _ _ _ _, Below.refl _ _⟩
  case round =>
    obtain ⟨i, hi, rfl, hown, hb⟩ := hrel
    have i0 : (0 : Int) ≤ (i : Int) := by omega
    obtain ⟨aa, ac, rfl⟩ := slice_form hown
    by_cases hlt : i < n
    · have i1 : (i : Int) < (n : Int) := by omega
      obtain ⟨r, hr⟩ : ∃ r, l[i]? = some r := ⟨_, List.getElem?_eq_getElem (by have := HN.out; omega)⟩
      obtain ⟨b, o, rfl, hbB, hqq⟩ := HQ.out (by omega)
      obtain ⟨q0, q1⟩ := hqq i r hr
      have a0 := (hb.cell (p := ⟨b, o + i * 2, none⟩) (by show b < w.heap.size; have := HB.out; omega)).trans q0
      have a1 := (hb.cell (p := ⟨b, o + i * 2 + 1, none⟩) (by show b < w.heap.size; have := HB.out; omega)).trans q1
      have hcvi := HCV.out i r hr
      have hrs := range_snoc cvs i
      generalize cvs i = cv at a1 hcvi hrs
      obtain ⟨ca, cp, hcvs, _⟩ := hcvi
      obtain ⟨m, hm⟩ : ∃ m, m = r.cond.length := ⟨_, rfl⟩
      rw [← hm] at hcvs
      subst hcvs
      obtain ⟨rc, hrc⟩ : ∃ rc, rc = r.cls := ⟨_, rfl⟩
      rw [← hrc] at a0
      obtain ⟨w2, hw2⟩ : ∃ w2, w2 = wr.alloc (.cells #[.string rc, .slice ca m cp] 34) := ⟨_, rfl⟩
      have hb2 : Below wr.heap.size wr w2 := by rw [hw2]; exact (Below.refl _ _).alloc (Nat.le_refl _) _
      have hg2 : w2.heap[wr.heap.size]? = some (.cells #[.string rc, .slice ca m cp] 34 (0, 0)) := by rw [hw2]; exact heap_alloc_new wr _
      have x1 : w2.cell? ⟨wr.heap.size, 1, none⟩ = some (.slice ca m cp) := by rw [Lib.cell_of_heap hg2]; rfl
      have hown2 := own_grow hown (grown_below hb2) (by cases (Value.slice aa i ac).ownBlock <;> simp)
      have hbw2 := hb.trans (hb2.mono hb.size)
      have hown3 := hown2.alloc (.cells #[.slice ca m cp] 32)
      have hbw3 := hbw2.alloc hbw2.size (.cells #[.slice ca m cp] 32)
      have HSZ := Lib.hid hbw3.size
      have HBW3 := Lib.hid hbw3
      have HRS := Lib.hid hrs
      clear hr hqq q0 q1 hm hrc hb2 hg2 hown hown2 hbw2 hbw3 hb hbB hrs
      go_upto_region 5 with fail
      rw [← hw2]
      clear hw2 a0 a1
      go_wp2_with (at_builtin; refine wpList_append_own _ rfl _ _ 28 rfl w.heap.size 32 j0 (.slice none 0 0) 1 24 Tryz.underlying28 hj hz0 hz1 hz2 rfl (by decide) _ _ _ rfl hown3 ⟨w2.heap.size, 0, none⟩ 1 1 [.slice ca m cp] rfl rfl (cells_new _ _ _) (by intro u hu; simp at hu; subst hu; rfl) (by unfold maxLen; omega) (by omega) HSZ.out ?_; intro v9 w9 hE9 hg9 _)
      go_roundw
      case rel => exact ⟨i + 1, by omega, by go_num, by rw [HRS.out]; exact hE9, HBW3.out.trans (grown_belowR hg9 hown3 HSZ.out)⟩
      case measure => simp [intOf] <;> omega
    · have i1 : ¬ (i : Int) < (n : Int) := by omega
      have hin : n = i := by omega
      subst hin
      have hconds : IsConds wr wr.heap.size (.slice aa n ac) (l.map (·.cond)) := by
        refine own_conds (B := B) hown (by rw [List.length_map]; exact HN.out) (fun k c hk => ?_) (Nat.le_trans HB.out hb.size)
        rw [List.getElem?_map] at hk
        obtain ⟨r, hr, rfl⟩ := Option.map_eq_some_iff.1 hk
        have hkn : k < n := by rw [HN.out]; exact (List.getElem?_eq_some_iff.1 hr).1
        exact ⟨cvs k, by rw [List.getElem?_map, List.getElem?_range hkn]; rfl, (HCV.out k r hr).below (hb.mono HB.out)⟩
      have hval := dvalid_any (.slice aa n ac) (l.map (·.cond)) wr.heap.size wr hconds (Nat.le_refl _) (by
        intro c hc
        obtain ⟨r, hr, rfl⟩ := List.mem_map.1 hc
        exact HC.out r hr) (by rw [List.length_map]; have := HN.out; omega)
      obtain ⟨w0, hw0⟩ : ∃ w0, w0 = wr := ⟨_, rfl⟩
      subst hw0
      have hcell : ∀ k, k < n → ∃ g, aa = some ⟨g, 0, none⟩ ∧ w0.cell? ⟨g, k, none⟩ = some (cvs k) := fun k hk => by
        obtain ⟨g, cap', hve, _, _⟩ := hown.form (by omega)
        injection hve with hve1 hve2 hve3
        subst hve1
        exact ⟨g, rfl, (own_cells hown (by rw [List.getElem?_map, List.getElem?_range hk]; rfl)).2.1⟩
      have HCELL := Lib.hid hcell
      have HVAL := Lib.hid hval
      have HB0 := Lib.hid hb
      clear hconds hval hcell hown hb
      go_wp2_with (go_at_call 22; refine (HVAL.out).mono ?_; rintro e w5 ⟨rfl, hb5⟩; have HB5 := Lib.hid hb5; clear hb5)
      go_loopw [30] (fun iv wr => ∃ i : Nat, i ≤ n ∧ iv = .int .i64 i ∧ Below w0.heap.size w0 wr ∧ ∀ a b, a < i → a < b → b < n → Apart l a b) (fun iv _ => n - (intOf iv).toNat)
      case atStart => exact ⟨0, Nat.zero_le _, rfl, HB5.out, fun a b h => by omega⟩
      case round =>
        obtain ⟨i, hi, rfl, hbi, hap⟩ := hrel
        have i0 : (0 : Int) ≤ (i : Int) := by omega
        have HBI := Lib.hid hbi
        have HAP := Lib.hid hap
        clear hbi hap
        by_cases hlt : i < n
        · have i1 : (i : Int) < (n : Int) := by omega
          go_wp2
          go_loopw [10] (fun jv wr => ∃ j : Nat, i < j ∧ j ≤ n ∧ jv = .int .i64 j ∧ Below w0.heap.size w0 wr ∧ ∀ b, i < b → b < j → Apart l i b) (fun jv _ => n - (intOf jv).toNat)
          case atStart => exact ⟨i + 1, by omega, by omega, by go_num, HBI.out, fun b h => by omega⟩
          case round =>
            obtain ⟨j, hij, hjn, rfl, hbj, haj⟩ := hrel
            have j0' : (0 : Int) ≤ (j : Int) := by omega
            have HBJ := Lib.hid hbj
            have HAJ := Lib.hid haj
            by_cases hjl : j < n
            · have j1 : (j : Int) < (n : Int) := by omega
              obtain ⟨ri, hri⟩ : ∃ r, l[i]? = some r := ⟨_, List.getElem?_eq_getElem (by have := HN.out; omega)⟩
              obtain ⟨rj, hrj⟩ : ∃ r, l[j]? = some r := ⟨_, List.getElem?_eq_getElem (by have := HN.out; omega)⟩
              obtain ⟨g, rfl, ci⟩ := HCELL.out i hlt
              obtain ⟨g', hge, cj⟩ := HCELL.out j hjl
              injection hge with hge
              injection hge with hge _ _
              subst hge
              have a0 := (hbj.cell (p := ⟨g, i, none⟩) (World.block_lt_of_cell? w0 _ ci)).trans ci
              have a1 := (hbj.cell (p := ⟨g, j, none⟩) (World.block_lt_of_cell? w0 _ cj)).trans cj
              have hci := (HCV.out i ri hri).below (HB0.out.mono HB.out)
              have hcj := (HCV.out j rj hrj).below (HB0.out.mono HB.out)
              generalize cvs i = ui at a0 hci ci
              generalize cvs j = uj at a1 hcj cj
              have hse : ∀ W' h, Below w0.heap.size w0 W' → W'.heap[h]? = some (.cells #[ui, uj] 32 (0, 0)) → Calls Tryz.prog 23 #[.slice (some ⟨h, 0, none⟩) 2 2, .func (.func 24) #[] #[]] W' (SearchP (fun bs => bs.getD 0 false && bs.getD 1 false) [ri.cond, rj.cond] W') := fun W' h hW hg =>
                search_any (.slice (some ⟨h, 0, none⟩) 2 2) [ri.cond, rj.cond] W'.heap.size W' (two_conds (hci.below (hW.mono (Nat.le_trans HB.out HB0.out.size))) (hcj.below (hW.mono (Nat.le_trans HB.out HB0.out.size))) (Nat.le_trans HB.out (Nat.le_trans HB0.out.size hW.size)) hg) (Nat.le_refl _) (by
                  intro c hc
                  simp at hc
                  rcases hc with rfl | rfl
                  · exact HC.out ri (List.mem_of_getElem? hri)
                  · exact HC.out rj (List.mem_of_getElem? hrj)) (by simp) (HT.out.below (HB0.out.trans (hW.mono HB0.out.size)) HT.out.lt) 24 (fun _ _ => by kernel_rfl) (fun bs => bs.getD 0 false && bs.getD 1 false) (disjoint1_any W')
              obtain ⟨cai, cpi, hvi, _⟩ := hci
              obtain ⟨caj, cpj, hvj, _⟩ := hcj
              obtain ⟨mi, hmi⟩ : ∃ m, m = ri.cond.length := ⟨_, rfl⟩
              obtain ⟨mj, hmj⟩ : ∃ m, m = rj.cond.length := ⟨_, rfl⟩
              rw [← hmi] at hvi
              rw [← hmj] at hvj
              subst hvi hvj
              have HSE := Lib.hid hse
              have HRI := Lib.hid hri
              have HRJ := Lib.hid hrj
              clear hse hri hrj hmi hmj ci cj hbj haj
              go_upto_region 15 with fail
              go_region_held3 (fun X => X.cell? ⟨g, i, none⟩ = some (.slice cai mi cpi) ∧ X.cell? ⟨g, j, none⟩ = some (.slice caj mj cpj) ∧ Below w0.heap.size w0 X) (first | assumption | exact ⟨a0, a1, HBJ.out.drew⟩ | exact c2_step ⟨a0, a1, HBJ.out⟩ ((Below.refl _ wr).alloc (Nat.le_refl _) _).drew)
                (first
                  | (go_at_call 23; refine (HSE.out _ wr.heap.size (HBJ.out.trans (((Below.refl wr.heap.size wr).alloc (Nat.le_refl _) _).drew.mono HBJ.out.size)) (heap_alloc_new wr _)).mono ?_; rintro e w8 ⟨s, ok, rfl, hb8, hh⟩; have hS8 := c2_step (by assumption) hb8))
              have HB8 := Lib.hid hS8.2.2
              have HH := Lib.hid hh
              clear hh hS8 hb8
              cases ok
              · go_wp2
                go_roundw
                case rel =>
                  refine ⟨j + 1, by omega, by omega, by go_num, HB8.out, fun b hib hb => ?_⟩
                  by_cases hbj' : b < j
                  · exact HAJ.out b hib hbj'
                  · have : b = j := by omega
                    subst this
                    intro ra rb ha hb' x hx hboth
                    rw [HRI.out] at ha
                    rw [HRJ.out] at hb'
                    cases ha
                    cases hb'
                    have h1 := HH.out rfl x hx
                    simp [hboth.1, hboth.2] at h1
                case measure => simp [intOf] <;> omega
              · go_wp2
                refine bodyPost_ret (results_tmp4 rfl _ _ _) rfl ?_
                exact ⟨i, j, s, 19, rfl, HB0.out.trans (HB8.out.mono HB0.out.size), .inr rfl, fun h => absurd h (by decide)⟩
            · have j1 : ¬ (j : Int) < (n : Int) := by omega
              clear hbj haj
              go_wp2
              go_roundw
              case rel =>
                refine ⟨i + 1, by omega, by go_num, HBJ.out, fun a b ha hab hb => ?_⟩
                by_cases hai : a < i
                · exact HAP.out a b hai hab hb
                · have : a = i := by omega
                  subst this
                  exact HAJ.out b hab (by omega)
              case measure => simp [intOf] <;> omega
        · have i1 : ¬ (i : Int) < (n : Int) := by omega
          go_wp2
          refine bodyPost_ret (results_tmp4 rfl _ _ _) rfl ?_
          exact ⟨0, 0, ⟨#[]⟩, 0, rfl, HB0.out.trans (HBI.out.mono HB0.out.size), .inl rfl, fun _ a b hab hb => HAP.out a b (by have := HN.out; omega) hab (by have := HN.out; omega)⟩
end Go.Proofs.YtbkcmgjmhglghaaGreatDoor
