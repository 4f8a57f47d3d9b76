/-
  decide.Automaton.
-/
import Derived.Test.YtbkcmgjmhglghaaGreatDoorWf3
import Derived.Test.YtbkcmgjmhglghaaGreatDoorWe1
import Derived.Test.YtbkcmgjmhglghaaGreatDoorWx2
import Derived.Test.YtbkcmgjmhglghaaGreatDoorWb5
namespace Go.Proofs.YtbkcmgjmhglghaaGreatDoor
open Go.RowKit

theorem results_ct {P : Program} {fn : Func} {p t : Tmp} {ty : TypeId} (h : fn.results = #[.cell p ty, .tmp t]) (tmps : Array Value) (w : World) (g : Nat) (tt : TypeId) (cs : Array Value) (fr : Nat × Nat) (d : TypeDesc)
    (hp : tmps.getD p undef = .pointer (some ⟨g, 0, none⟩)) (hg : w.heap[g]? = some (.cells cs tt fr))
    (hu : P.underlying ty = some d) (hd : (match d with | .struct _ | .array _ _ => true | _ => false) = true) (hi : (P.info? ty).map (·.size) = some cs.size) :
    (results fn tmps).run P w = .ok (.tuple #[.agg cs, tmps.getD t undef]) w := by
  have hp' : tmps[p]?.getD undef = .pointer (some ⟨g, 0, none⟩) := by simpa using hp
  simp [results, h, hp', asAddr, run_loadVar_row w g tt ty cs fr d hg hu hd hi]
theorem IsSpans.up {w : World} {B B' : Nat} {v : Value} {l : List Sp} (h : IsSpans w B v l) (hB : B ≤ B') : IsSpans w B' v l := h.imp hB fun _ _ _ h => h
theorem IsRels.up {w : World} {B B' : Nat} {v : Value} {l : List Rel} (h : IsRels w B v l) (hB : B ≤ B') : IsRels w B' v l := h.imp hB fun _ _ _ h i x hx => by
  obtain ⟨h1, h2, h3, sv, h4, h5⟩ := h i x hx
  exact ⟨h1, h2, h3, sv, h4, h5.up hB⟩
theorem IsCond.up {w : World} {B B' : Nat} {v : Value} {l : Cnd} (h : IsCond w B v l) (hB : B ≤ B') : IsCond w B' v l := h.imp hB fun _ _ _ h i x hx => by
  obtain ⟨rv, h1, h2⟩ := h i x hx
  exact ⟨rv, h1, h2.up hB⟩
theorem dfa_cell {w : World} {g i : Nat} {t : TypeId} (hg : w.heap[g]? = some (.cells #[.int .i64 0, .slice none 0 0, .slice none 0 0] t (0, 0))) : (∀ b n c, w.cell? ⟨g, i, none⟩ ≠ some (.slice (some b) n c)) ∧ (∀ b, w.cell? ⟨g, i, none⟩ ≠ some (.bool b)) ∧ ∀ z, w.cell? ⟨g, i + 1, none⟩ ≠ some (.int .i64 z) := by
  rw [Lib.cell_of_heap hg, Lib.cell_of_heap hg]
  rcases i with _ | _ | _ | i
  all_goals exact ⟨fun _ _ _ h => by simp at h, fun _ h => by simp at h, fun _ h => by simp at h⟩
theorem IsRowsV.turn {w w' : World} {B g : Nat} {v : Value} {next : List (List Nat)} {t : TypeId} (h : IsRowsV w B v next) (hg : w.heap[g]? = some (.cells #[.int .i64 0, .slice none 0 0, .slice none 0 0] t (0, 0))) (hk : ∀ k, k ≠ g → w'.heap[k]? = w.heap[k]?) : IsRowsV w' B v next := by
  obtain ⟨ao, cap, rfl, h⟩ := h
  refine ⟨ao, cap, rfl, fun hp => ?_⟩
  obtain ⟨b, o, rfl, hb, hc⟩ := h hp
  refine ⟨b, o, rfl, hb, fun i r hr => ?_⟩
  obtain ⟨rb, h1, h2, h3⟩ := hc i r hr
  have n1 : b ≠ g := by
    rintro rfl
    exact (dfa_cell hg).1 _ _ _ h2
  have n2 : rb ≠ g := by
    rintro rfl
    exact (dfa_cell (i := 0) hg).2.2 _ (h3 1 (by omega))
  exact ⟨rb, h1, by rw [World.cell?_of_block (w := w) (hk b n1)]; exact h2, fun c hcc => by rw [World.cell?_of_block (w := w) (hk rb n2)]; exact h3 c hcc⟩
theorem IsBools.turn {w w' : World} {B g : Nat} {v : Value} {l : List Bool} {t : TypeId} (h : IsBools w B v l) (hg : w.heap[g]? = some (.cells #[.int .i64 0, .slice none 0 0, .slice none 0 0] t (0, 0))) (hk : ∀ k, k ≠ g → w'.heap[k]? = w.heap[k]?) : IsBools w' B v l := by
  obtain ⟨ao, cap, rfl, h⟩ := h
  refine ⟨ao, cap, rfl, fun hp => ?_⟩
  obtain ⟨b, o, rfl, hb, hc⟩ := h hp
  refine ⟨b, o, rfl, hb, fun i x hx => ?_⟩
  have n1 : b ≠ g := by
    rintro rfl
    exact (dfa_cell hg).2.1 _ (hc i x hx)
  rw [World.cell?_of_block (w := w) (hk b n1)]
  exact hc i x hx
theorem three_other {W : World} {g k : Nat} {a b c : Value} (h : k ≠ g) : (((W.setCell ⟨g, 0, none⟩ a).setCell ⟨g, 1, none⟩ b).setCell ⟨g, 2, none⟩ c).heap[k]? = W.heap[k]? := by
  rw [heap_setCell_other _ _ _ _ h, heap_setCell_other _ _ _ _ h, heap_setCell_other _ _ _ _ h]
/-- What decide.Automaton gives back. -/
def AutP (c : Cnd) (w : World) (e : Ending) (w' : World) : Prop :=
  Below w.heap.size w w' ∧ ((∃ d, e = .returned (.tuple #[d, .int .i64 6])) ∨ ∃ (nv av : Value) (next : List (List Nat)) (ac : List Bool), e = .returned (.tuple #[.agg #[.int .i64 0, nv, av], .int .i64 0]) ∧ IsRowsV w' w'.heap.size nv next ∧ IsBools w' w'.heap.size av ac ∧ ac.length = next.length ∧ 1 ≤ next.length ∧ next.length ≤ 2000 ∧
    (∀ i q, i < next.length → q < 11 → nx next i q < next.length) ∧ ∀ x : Num, x.OK → ac.getD (runT next 0 (syms x)) false = condH c x)
theorem rdV_rd0 : rdV rd0 = .agg #[.int .i64 0, .int .i64 0, .int .i64 0, .int .i64 0, .int .i64 0, .int .i64 0, .int .i64 0, .int .i64 0, .int .i64 0, .int .i64 0, .int .i64 0, .int .i64 0, .int .i64 0] := rfl
theorem one_cell {W : World} {g : Nat} {v : Value} {t : TypeId} (h : W.heap[g]? = some (.cells #[v] t (0, 0))) : W.cell? ⟨g, 0, none⟩ = some v := by
  rw [Lib.cell_of_heap h]
  rfl
theorem set3 {X : World} {g : Nat} {x0 x1 x2 v0 v1 v2 : Value} {t : TypeId} (h : X.heap[g]? = some (.cells #[x0, x1, x2] t (0, 0))) : (((X.setCell ⟨g, 0, none⟩ v0).setCell ⟨g, 1, none⟩ v1).setCell ⟨g, 2, none⟩ v2).heap[g]? = some (.cells #[v0, v1, v2] t (0, 0)) := by
  have s1 : (X.setCell ⟨g, 0, none⟩ v0).heap[g]? = some (.cells #[v0, x1, x2] t (0, 0)) := Lib.heap_setCell_same (i := 0) h v0
  have s2 : ((X.setCell ⟨g, 0, none⟩ v0).setCell ⟨g, 1, none⟩ v1).heap[g]? = some (.cells #[v0, v1, x2] t (0, 0)) := Lib.heap_setCell_same (i := 1) s1 v1
  exact Lib.heap_setCell_same (i := 2) s2 v2
set_option maxRecDepth 100000 in
set_option maxHeartbeats 3200000 in
theorem automaton_any (v : Value) (c : Cnd) (B : Nat) (w : World) (hv : IsCond w B v c) (hB : B ≤ w.heap.size) (hc : condB c = true) (hwt : wfold c.flatten 1 ≤ 200) :
    Calls Tryz.prog 10 #[v] w (AutP c w) := by
  have hrelB : ∀ r ∈ c.flatten, relB r = true := fun r hr => condB_rel hc hr
  have h6 := condB_total hc
  have hwe := fun W (hW : Below w.heap.size w W) => weight_any v c B W (hv.below (hW.mono hB)) (Nat.le_trans hB hW.size) hc
  have hre := fun W (hW : Below w.heap.size w W) => relations_any v c B W (hv.below (hW.mono hB)) (Nat.le_trans hB hW.size) hc
  have hv0 := hv
  obtain ⟨ao, cap, rfl, _⟩ := hv
  obtain ⟨n, hn⟩ : ∃ n, n = c.length := ⟨_, rfl⟩
  rw [← hn] at hwe hre hv0
  rw [← hn]
  obtain ⟨W0, hW0⟩ : ∃ W0, W0 = wfold c.flatten 1 := ⟨_, rfl⟩
  rw [← hW0] at hwe
  have hw200 : W0 ≤ 200 := by rw [hW0]; exact hwt
  obtain ⟨p0, p1, pb, ps⟩ := alloc2 w #[.slice ao n cap] #[.int .i64 0, .slice none 0 0, .slice none 0 0] 32 40
  have HWE := Lib.hid hwe
  have HRE := Lib.hid hre
  have HV := Lib.hid hv0
  have HRB := Lib.hid hrelB
  have H6 := Lib.hid h6
  have HC := Lib.hid hc
  have HWT := Lib.hid hwt
  have HB := Lib.hid hB
  clear hwe hre hv0 hrelB h6 hc hwt hn hB hW0
  go_enter Tryz.func10, Tryz.ntmps10
  go_upto_region 1 with fail
  obtain ⟨w1, hw1⟩ : ∃ w1, w1 = ((w.alloc (.cells #[.slice ao n cap] 32)).alloc (.cells #[.int .i64 0, .slice none 0 0, .slice none 0 0] 40)) := ⟨_, rfl⟩
  rw [← hw1] at p0 p1 pb ps
  rw [← hw1]
  clear hw1
  have c0 := one_cell p0
  have HP0 := Lib.hid p0
  have HP1 := Lib.hid p1
  have HPB := Lib.hid pb
  have HPS := Lib.hid ps
  clear p0 p1 pb ps
  go_wp2_with (first
    | (go_at_call 25; refine (HWE.out _ HPB.out).mono ?_; rintro e w2 ⟨rfl, hb2⟩
       have h20 := (hb2.block w.heap.size (by have := HPS.out; omega)).trans HP0.out
       have c2 := one_cell h20
       have HB2 := Lib.hid (HPB.out.trans (hb2.mono HPB.out.size))
       have HQ0 := Lib.hid h20
       have HQ1 := Lib.hid ((hb2.block (w.heap.size + 1) (by have := HPS.out; omega)).trans HP1.out)
       clear hb2 h20 c0)
    | (go_at_call 26; refine (HRE.out _ HB2.out).mono ?_; rintro e w3 ⟨lv, rfl, hlv, hb3⟩; obtain ⟨la, lc, rfl, _⟩ := id hlv; obtain ⟨lm, hlm⟩ : ∃ lm, lm = c.flatten.length := ⟨_, rfl⟩; rw [← hlm] at hlv ⊢
       have HLM := Lib.hid hlm
       have HLV := Lib.hid hlv
       have HB3 := Lib.hid (HB2.out.trans (hb3.mono HB2.out.size))
       have h30 := (hb3.block w.heap.size (Array.getElem?_eq_some_iff.1 HQ0.out).1).trans HQ0.out
       have HR0 := Lib.hid h30
       have HR1 := Lib.hid ((hb3.block (w.heap.size + 1) (Array.getElem?_eq_some_iff.1 HQ1.out).1).trans HQ1.out)
       clear hlv hb3 h30 c2 hlm)
    | fail)
  have hgl := heap_alloc_new w3 (.cells #[.slice la lm lc] 52)
  have hb4 : Below w3.heap.size w3 (w3.alloc (.cells #[.slice la lm lc] 52)) := (Below.refl _ _).alloc (Nat.le_refl _) _
  obtain ⟨w4, hw4⟩ : ∃ w4, w4 = w3.alloc (.cells #[.slice la lm lc] 52) := ⟨_, rfl⟩
  rw [← hw4] at hgl hb4
  rw [← hw4]
  clear hw4
  obtain ⟨gl, hgle⟩ : ∃ gl, gl = w3.heap.size := ⟨_, rfl⟩
  rw [← hgle] at hgl
  rw [← hgle]
  have cl4 := one_cell hgl
  have hg0 := (hb4.block w.heap.size (Array.getElem?_eq_some_iff.1 HR0.out).1).trans HR0.out
  have cc4 := one_cell hg0
  have hg1 := (hb4.block (w.heap.size + 1) (Array.getElem?_eq_some_iff.1 HR1.out).1).trans HR1.out
  have hB4 := HB3.out.trans (hb4.mono HB3.out.size)
  have hlv4 := HLV.out.below hb4
  have hcv4 := (HV.out.below (hB4.mono HB.out)).up (Nat.le_trans HB.out HB3.out.size)
  have hsz4 := hb4.size
  have hexp := exploreR_any rd0 (allRS c.flatten) (rdStep c.flatten) (accR c) 28 30 #[.pointer (some ⟨gl, 0, none⟩)] #[.pointer (some ⟨w.heap.size, 0, none⟩), .pointer (some ⟨gl, 0, none⟩)] (fun _ _ => by kernel_rfl) (fun _ _ => by kernel_rfl) w4
    (rd0_mem HRB.out) (fun s hs q _ => rdStep_mem HRB.out hs q) (Nat.le_trans (length_allRS HRB.out HWT.out) (by omega)) (fun s hs => rdOK_mem HRB.out hs)
    (fun W s q hW hs hq => aut1_any s gl _ c.flatten q w3.heap.size W (rdOK_mem HRB.out hs) (rdOK_mem HRB.out (rdStep_mem HRB.out hs q)) ((hW.cell (p := ⟨gl, 0, none⟩) (World.block_lt_of_cell? w4 _ cl4)).trans cl4) (hlv4.below (hW.mono hsz4)) (Nat.le_trans hsz4 hW.size) HRB.out H6.out (by omega))
    (fun W s hW hs => aut2_any s w.heap.size gl _ _ c w3.heap.size W (rdOK_mem HRB.out hs) ((hW.cell (p := ⟨w.heap.size, 0, none⟩) (World.block_lt_of_cell? w4 _ cc4)).trans cc4) (hcv4.below (hW.mono hsz4)) HC.out ((hW.cell (p := ⟨gl, 0, none⟩) (World.block_lt_of_cell? w4 _ cl4)).trans cl4) (hlv4.below (hW.mono hsz4)) (Nat.le_trans hsz4 hW.size))
  rw [rdV_rd0] at hexp
  have hul : (allRS c.flatten).length ≤ 200000 := length_allRS HRB.out HWT.out
  refine hexp.mono ?_
  rintro e w5 ⟨nv5, av5, st5, next5, ac5, rfl, ht5, hn5, ha5, hl5, hb5⟩
  have hacc : ∀ x : Num, x.OK → ac5.getD (runT next5 0 (syms x)) false = condH c x := fun x hx => by
    rw [ht5.runs (syms_lt hx)]
    exact acc_table HC.out hx
  have hmer := merged_any st5 rd0 (rdStep c.flatten) (accR c) next5 ac5 nv5 av5 w5.heap.size w5 ht5 hn5 ha5 (Nat.le_refl _) (by omega)
  have HG1 := Lib.hid ((hb5.block (w.heap.size + 1) (Array.getElem?_eq_some_iff.1 hg1).1).trans hg1)
  have HB5 := Lib.hid (hB4.trans (hb5.mono hB4.size))
  have HMER := Lib.hid hmer
  clear hgl hb4 cl4 cc4 hg0 hg1 hB4 hlv4 hcv4 hsz4 hexp hul ht5 hn5 ha5 hl5 hb5 hacc hmer
  go_wp2_with (first
    | (go_at_call 34; refine (HMER.out).mono ?_; rintro e w6 ⟨nv6, av6, start6, step6, acc6, st6, next6, ac6, rfl, ht6, hn6, ha6, hl6, hb6, hrun6⟩
       obtain ⟨a1, k1, rfl, _⟩ := id hn6
       obtain ⟨a2, k2, rfl, _⟩ := id ha6
       have hnl := ht6.nlen
       have hal := ht6.alen
       have hpos := ht6.pos
       have hlt6 : ∀ i q, i < next6.length → q < 11 → nx next6 i q < next6.length := fun i q hi hq => by
         rw [hnl] at hi ⊢
         exact ht6.lt hi hq
       have hruns : ∀ x : Num, x.OK → ac6.getD (runT next6 0 (syms x)) false = condH c x := fun x hx => by
         rw [hrun6 _ (syms_lt hx)]
         exact acc_table HC.out hx
       rw [hal, ← hnl] at ha6 ⊢
       obtain ⟨m, hm⟩ : ∃ m, m = next6.length := ⟨_, rfl⟩
       have hg6 := (hb6.block (w.heap.size + 1) (Array.getElem?_eq_some_iff.1 HG1.out).1).trans HG1.out
       have hba : Below w6.heap.size w6 (w6.alloc (.cells #[.slice a1 next6.length k1, .slice a2 next6.length k2] 67)) := (Below.refl _ _).alloc (Nat.le_refl _) _
       have hga := (hba.block (w.heap.size + 1) (Array.getElem?_eq_some_iff.1 hg6).1).trans hg6
       have hdf := dfa_any next6 ac6 (.slice a1 next6.length k1) (.slice a2 next6.length k2) w6.heap.size (w6.alloc (.cells #[.slice a1 next6.length k1, .slice a2 next6.length k2] 67)) (hn6.below hba) (ha6.below hba) hba.size (by omega)
       rw [← hm] at hga hdf hlt6 ⊢
       obtain ⟨x0, x1, x2, x3, x4, x5⟩ := three_cells hga
       have HGA := Lib.hid hga
       have HDF := Lib.hid hdf
       have HB6 := Lib.hid ((HB5.out.trans (hb6.mono HB5.out.size)).trans ((by rw [hm]; exact hba : Below w6.heap.size w6 (w6.alloc (.cells #[.slice a1 m k1, .slice a2 m k2] 67))).mono (HB5.out.trans (hb6.mono HB5.out.size)).size))
       have HM := Lib.hid hm
       have HLT6 := Lib.hid hlt6
       have HRUNS := Lib.hid hruns
       have HAL := Lib.hid (hal.trans (hnl.symm.trans hm.symm))
       have HPOS := Lib.hid (show 1 ≤ m by omega)
       clear ht6 hn6 ha6 hl6 hb6 hrun6 hnl hal hpos hlt6 hruns hm hg6 hba hga hdf)
    | (go_at_call 35; refine (HDF.out).mono ?_; rintro e w8 ⟨nv8, av8, rfl, hr8, ha8, hb8⟩
       obtain ⟨a3, k3, rfl, _⟩ := id hr8
       obtain ⟨a4, k4, rfl, _⟩ := id ha8
       have hg8 := (hb8.block (w.heap.size + 1) (Array.getElem?_eq_some_iff.1 HGA.out).1).trans HGA.out
       obtain ⟨y0, y1, y2, y3, y4, y5⟩ := three_cells hg8
       rw [← HM.out] at hr8 ⊢
       rw [HAL.out] at ha8 ⊢
       have HG8 := Lib.hid hg8
       have HR8 := Lib.hid hr8
       have HA8 := Lib.hid ha8
       have HB8 := Lib.hid (HB6.out.trans (hb8.mono HB6.out.size))
       clear hr8 ha8 hb8 hg8)
    | fail)
  · refine bodyPost_ret (results_ct rfl _ _ (w.heap.size + 1) _ _ _ _ rfl (set3 HGA.out) Tryz.underlying40 rfl (by rw [Tryz.infoDfa1]; rfl)) rfl ?_
    exact ⟨((HB6.out.setCell (p := ⟨w.heap.size + 1, 0, none⟩) (Nat.le_succ _) _).setCell (p := ⟨w.heap.size + 1, 1, none⟩) (Nat.le_succ _) _).setCell (p := ⟨w.heap.size + 1, 2, none⟩) (Nat.le_succ _) _, Or.inl ⟨_, rfl⟩⟩
  · have hle : m ≤ 2000 := by omega
    refine bodyPost_ret (results_ct rfl _ _ (w.heap.size + 1) _ _ _ _ rfl (set3 HG8.out) Tryz.underlying40 rfl (by rw [Tryz.infoDfa1]; rfl)) rfl ?_
    have hb := ((HB8.out.setCell (p := ⟨w.heap.size + 1, 0, none⟩) (Nat.le_succ _) (.int .i64 0)).setCell (p := ⟨w.heap.size + 1, 1, none⟩) (Nat.le_succ _) (.slice a3 m k3)).setCell (p := ⟨w.heap.size + 1, 2, none⟩) (Nat.le_succ _) (.slice a4 m k4)
    refine ⟨hb, Or.inr ⟨_, _, next6, ac6, rfl, ?_, ?_, ?_, ?_, ?_, ?_, HRUNS.out⟩⟩
    · have h := HR8.out.turn HG8.out (fun k hk => three_other (a := .int .i64 0) (b := .slice a3 m k3) (c := .slice a4 m k4) hk)
      simpa using h
    · have h := HA8.out.turn HG8.out (fun k hk => three_other (a := .int .i64 0) (b := .slice a3 m k3) (c := .slice a4 m k4) hk)
      simpa using h
    · rw [HAL.out, HM.out]
    · rw [← HM.out]; exact HPOS.out
    · rw [← HM.out]; exact hle
    · rw [← HM.out]; exact HLT6.out
end Go.Proofs.YtbkcmgjmhglghaaGreatDoor
