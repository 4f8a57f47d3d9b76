/-
  decide.dfa.
-/
import Derived.Test.YtbkcmgjmhglghaaGreatDoorWm3
namespace Go.Proofs.YtbkcmgjmhglghaaGreatDoor
open Go.RowKit

theorem Tryz.infoSl : (Tryz.prog.info? 85).map (fun i => (i.zero, i.size, i.bytes)) = some (some (.slice none 0 0), 1, 24) := by kernel_rfl
theorem Tryz.infoDfa1 : (Tryz.prog.info? 40).map (·.size) = some 3 := by kernel_rfl
/-- Rows of an automaton: each row a slice of its own. -/
def IsRowsV (w : World) (B : Nat) (v : Value) (next : List (List Nat)) : Prop := SlV v next.length B fun b o => ∀ i r, next[i]? = some r → ∃ rb, rb < B ∧ w.cell? ⟨b, o + i, none⟩ = some (.slice (some ⟨rb, 0, none⟩) 11 11) ∧ ∀ c, c < 11 → w.cell? ⟨rb, c, none⟩ = some (.int .i64 ((r.getD c 0 : Nat) : Int))
theorem IsRowsV.below {w w' : World} {B : Nat} {v : Value} {l : List (List Nat)} (h : IsRowsV w B v l) (hb : Below B w w') : IsRowsV w' B v l :=
  h.imp (Nat.le_refl _) fun b o hB hc i r hr => by
    obtain ⟨rb, h1, h2, h3⟩ := hc i r hr
    exact ⟨rb, h1, (hb.cell (p := ⟨b, o + i, none⟩) hB).trans h2, fun c hcc => (hb.cell (p := ⟨rb, c, none⟩) h1).trans (h3 c hcc)⟩
def slr (rb : Nat) : Value := .slice (some ⟨rb, 0, none⟩) 11 11
/-- The rows that were made. -/
def RowsAt (w wr : World) (next : List (List Nat)) (rbs : List Nat) : Prop := ∀ j rb, rbs[j]? = some rb → w.heap.size ≤ rb ∧ wr.heap[rb]? = some (.cells (rowC (next.getD j [])).toArray 102 (0, 0))
theorem RowsAt.grow {w wr w' : World} {next : List (List Nat)} {rbs : List Nat} (h : RowsAt w wr next rbs) {row : Option Nat} (hg : wr.grownBy w' row) (hne : ∀ k, row = some k → ∀ cs, wr.heap[k]? ≠ some (.cells cs 102 (0, 0))) : RowsAt w w' next rbs := fun j rb hj => by
  obtain ⟨h1, h2⟩ := h j rb hj
  exact ⟨h1, (hg.block rb (Array.getElem?_eq_some_iff.1 h2).1 (fun e => hne rb e.symm _ h2)).trans h2⟩
theorem RowsAt.below {w wr w' : World} {next : List (List Nat)} {rbs : List Nat} (h : RowsAt w wr next rbs) (hb : Below wr.heap.size wr w') : RowsAt w w' next rbs := h.grow (row := none) (grown_below hb) (fun k e => by cases e)
theorem three_cells {W : World} {g : Nat} {a b c : Value} {t : TypeId} (h : W.heap[g]? = some (.cells #[a, b, c] t (0, 0))) : W.cell? ⟨g, 0, none⟩ = some a ∧ W.cell? ⟨g, 1, none⟩ = some b ∧ W.cell? ⟨g, 2, none⟩ = some c ∧ W.frozen? ⟨g, 0, none⟩ = false ∧ W.frozen? ⟨g, 1, none⟩ = false ∧ W.frozen? ⟨g, 2, none⟩ = false := by
  refine ⟨?_, ?_, ?_, Lib.frozen_of_heap h 0, Lib.frozen_of_heap h 1, Lib.frozen_of_heap h 2⟩ <;> (rw [Lib.cell_of_heap h]; rfl)
/-- What dfa gives back. -/
def DfaP (next : List (List Nat)) (ac : List Bool) (w : World) (e : Ending) (w' : World) : Prop :=
  ∃ nv av : Value, e = .returned (.agg #[.int .i64 0, nv, av]) ∧ IsRowsV w' w'.heap.size nv next ∧ IsBools w' w'.heap.size av ac ∧ Below w.heap.size w w'
set_option maxRecDepth 100000 in
set_option maxHeartbeats 3200000 in
theorem dfa_any (next : List (List Nat)) (ac : List Bool) (nv av : Value) (B : Nat) (w : World) (hnv : IsNext w B nv next) (hav : IsBools w B av ac) (hB : B ≤ w.heap.size) (hn : next.length ≤ 1000000) :
    Calls Tryz.prog 35 #[.agg #[nv, av]] w (DfaP next ac w) := by
  have hnv' := hnv
  have hav' := hav
  obtain ⟨ao, cap, rfl, hnc⟩ := hnv'
  obtain ⟨ao2, cap2, rfl, _⟩ := hav'
  obtain ⟨n, hnn⟩ : ∃ n, n = next.length := ⟨_, rfl⟩
  obtain ⟨m, hm⟩ : ∃ m, m = ac.length := ⟨_, rfl⟩
  rw [← hnn] at hnv hnc hn
  rw [← hm] at hav
  rw [← hnn, ← hm]
  obtain ⟨i2', hi2, hx0, hx1, hx2⟩ := info_parts Tryz.infoSl
  have HNV := Lib.hid hnv
  have HAV := Lib.hid hav
  have HNC := Lib.hid hnc
  have HB := Lib.hid hB
  have HNN := Lib.hid hnn
  clear hnv hav hnc hB hnn hm
  go_enter Tryz.func35, Tryz.ntmps35
  go_wp2
  obtain ⟨wA, hwA⟩ : ∃ wA, wA = ((w.alloc (.cells #[.slice ao n cap, .slice ao2 m cap2] 67)).alloc (.cells #[.int .i64 0, .slice none 0 0, .slice none 0 0] 40)).alloc (.cells #[.int .i64 0, .slice none 0 0, .slice ao2 m cap2] 40) := ⟨_, rfl⟩
  obtain ⟨p0, p1, p2, pb, ps⟩ := alloc3 w #[.slice ao n cap, .slice ao2 m cap2] #[.int .i64 0, .slice none 0 0, .slice none 0 0] #[.int .i64 0, .slice none 0 0, .slice ao2 m cap2] 67 40 40
  rw [← hwA] at p0 p1 p2 pb ps
  rw [← hwA]
  clear hwA p0
  obtain ⟨g2, hg2⟩ : ∃ g2, g2 = w.heap.size + 1 := ⟨_, rfl⟩
  obtain ⟨gd, hgd⟩ : ∃ gd, gd = w.heap.size + 1 + 1 := ⟨_, rfl⟩
  rw [← hg2] at p1
  rw [show w.heap.size + 2 = w.heap.size + 1 + 1 from rfl, ← hgd] at p2
  have hnum : g2 < gd ∧ w.heap.size ≤ g2 := by omega
  rw [← hgd, ← hg2]
  have HP1 := Lib.hid p1
  have HP2 := Lib.hid p2
  have HPB := Lib.hid pb
  have HNUM := Lib.hid hnum
  clear p1 p2 pb ps hg2 hgd hnum
  go_loopw [12] (fun iv wr => ∃ (i : Nat) (rbs : List Nat) (sv : Value), i ≤ n ∧ iv = .int .i64 i ∧ rbs.length = i ∧ RowsAt w wr next rbs ∧ wr.ownsRow w.heap.size 85 1 sv rbs.length (rbs.map slr) ∧ wr.heap[gd]? = some (.cells #[.int .i64 0, sv, .slice ao2 m cap2] 40 (0, 0)) ∧ wr.heap[g2]? = some (.cells #[.int .i64 0, .slice none 0 0, .slice none 0 0] 40 (0, 0)) ∧ Below w.heap.size w wr) (fun iv _ => n - (intOf iv).toNat)
  case atStart => exact ⟨0, [], .slice none 0 0, Nat.zero_le _, rfl, rfl, fun _ _ h => by simp at h, World.ownsRow_nil _ _ _ _, HP2.out, HP1.out, HPB.out⟩
  case round =>
    obtain ⟨i, rbs, sv, hi, rfl, hrl, hrows, hown, hd, hr2, hb⟩ := hrel
    have i0 : (0 : Int) ≤ (i : Int) := by omega
    by_cases hlt : i < n
    · have i1 : (i : Int) < (n : Int) := by omega
      obtain ⟨b, o, rfl, hbB, hcc⟩ := HNC.out (by omega)
      have hcell : ∀ q, q < 11 → wr.cell? ⟨b, o + i * 11 + q, none⟩ = some (.int .i64 (nx next i q : Nat)) := fun q hq => by
        have h1 := hcc i _ (List.getElem?_eq_getElem (by have := HNN.out; omega)) q hq
        have e : (next[i]'(by have := HNN.out; omega)).getD q 0 = nx next i q := by
          unfold nx
          rw [List.getD_eq_getElem?_getD (l := next), List.getElem?_eq_getElem (by have := HNN.out; omega)]
          rfl
        rw [e] at h1
        exact (hb.cell (p := ⟨b, o + i * 11 + q, none⟩) (by show b < w.heap.size; have := HB.out; omega)).trans h1
      have e0 := hcell 0 (by omega)
      rw [Nat.add_zero] at e0
      have e1 := hcell 1 (by omega)
      have e2 := hcell 2 (by omega)
      have e3 := hcell 3 (by omega)
      have e4 := hcell 4 (by omega)
      have e5 := hcell 5 (by omega)
      have e6 := hcell 6 (by omega)
      have e7 := hcell 7 (by omega)
      have e8 := hcell 8 (by omega)
      have e9 := hcell 9 (by omega)
      have e10 := hcell 10 (by omega)
      have hba : Below wr.heap.size wr (wr.alloc (.cells #[.int .i64 (nx next i 0 : Nat), .int .i64 (nx next i 1 : Nat), .int .i64 (nx next i 2 : Nat), .int .i64 (nx next i 3 : Nat), .int .i64 (nx next i 4 : Nat), .int .i64 (nx next i 5 : Nat), .int .i64 (nx next i 6 : Nat), .int .i64 (nx next i 7 : Nat), .int .i64 (nx next i 8 : Nat), .int .i64 (nx next i 9 : Nat), .int .i64 (nx next i 10 : Nat)] 102)) := (Below.refl _ _).alloc (Nat.le_refl _) _
      have hra : (wr.alloc (.cells #[.int .i64 (nx next i 0 : Nat), .int .i64 (nx next i 1 : Nat), .int .i64 (nx next i 2 : Nat), .int .i64 (nx next i 3 : Nat), .int .i64 (nx next i 4 : Nat), .int .i64 (nx next i 5 : Nat), .int .i64 (nx next i 6 : Nat), .int .i64 (nx next i 7 : Nat), .int .i64 (nx next i 8 : Nat), .int .i64 (nx next i 9 : Nat), .int .i64 (nx next i 10 : Nat)] 102)).heap[wr.heap.size]? = some (.cells (rowC (next.getD i [])).toArray 102 (0, 0)) := heap_alloc_new wr _
      have hdl := (Array.getElem?_eq_some_iff.1 hd).1
      have hr2l := (Array.getElem?_eq_some_iff.1 hr2).1
      have hda := (hba.block gd hdl).trans hd
      have hr2a := (hba.block g2 hr2l).trans hr2
      have howna := own_belowR hown hba
      have hrowsa := hrows.below hba
      have hszw := hb.size
      have HBA := Lib.hid (hb.trans (hba.mono hb.size))
      have HRA := Lib.hid hra
      have HDA := Lib.hid hda
      have HR2A := Lib.hid hr2a
      have HOWN := Lib.hid howna
      have HROWS := Lib.hid hrowsa
      have HRL := Lib.hid hrl
      have HSZ := Lib.hid hszw
      clear hcell hcc hba hra hda hr2a howna hrowsa hown hrows hd hr2 hb hrl hdl hr2l hszw
      go_wp2_with fail
      obtain ⟨wB, hwB⟩ : ∃ wB, wB = wr.alloc (.cells #[.int .i64 (nx next i 0 : Nat), .int .i64 (nx next i 1 : Nat), .int .i64 (nx next i 2 : Nat), .int .i64 (nx next i 3 : Nat), .int .i64 (nx next i 4 : Nat), .int .i64 (nx next i 5 : Nat), .int .i64 (nx next i 6 : Nat), .int .i64 (nx next i 7 : Nat), .int .i64 (nx next i 8 : Nat), .int .i64 (nx next i 9 : Nat), .int .i64 (nx next i 10 : Nat)] 102) := ⟨_, rfl⟩
      have hszB : wB.heap.size = wr.heap.size + 1 := by rw [hwB]; simp
      rw [← hwB] at HBA HRA HDA HR2A HOWN HROWS
      rw [← hwB]
      obtain ⟨rb, hrb⟩ : ∃ rb, rb = wr.heap.size := ⟨_, rfl⟩
      rw [← hrb] at HRA HSZ
      rw [← hrb]
      have HRB := Lib.hid (show rb < wB.heap.size by omega)
      clear hwB hszB hrb e0 e1 e2 e3 e4 e5 e6 e7 e8 e9 e10
      have happ : ∃ gA capA wC, (Builtin.append_ #[37, 37] 37 #[sv, .slice (some ⟨wB.heap.size, 0, none⟩) 1 1]).run Tryz.prog (wB.drew.alloc (.cells #[.slice (some ⟨rb, 0, none⟩) 11 11] 85)) = .ok (.slice (some ⟨gA, 0, none⟩) (i + 1) capA) wC ∧
          wB.cell? ⟨gd, 1, none⟩ = some sv ∧ (wB.alloc (.cells #[.slice (some ⟨rb, 0, none⟩) 11 11] 85)).cell? ⟨gd, 1, none⟩ = some sv ∧ wC.cell? ⟨gd, 1, none⟩ = some sv ∧ wC.frozen? ⟨gd, 1, none⟩ = false ∧
          wC.heap[gd]? = some (.cells #[.int .i64 0, sv, .slice ao2 m cap2] 40 (0, 0)) ∧ wC.heap[g2]? = some (.cells #[.int .i64 0, .slice none 0 0, .slice none 0 0] 40 (0, 0)) ∧ wC.heap[rb]? = some (.cells (rowC (next.getD i [])).toArray 102 (0, 0)) ∧
          RowsAt w wC next rbs ∧ Below w.heap.size w wC ∧ wC.ownsRow w.heap.size 85 1 (.slice (some ⟨gA, 0, none⟩) (i + 1) capA) (i + 1) (rbs.map slr ++ [slr rb]) := by
        obtain ⟨WD, hWD⟩ : ∃ WD : World, WD = wB.drew := ⟨_, rfl⟩
        have hd' : WD.heap[gd]? = some (.cells #[.int .i64 0, sv, .slice ao2 m cap2] 40 (0, 0)) := by rw [hWD]; exact HDA.out
        have hr' : WD.heap[g2]? = some (.cells #[.int .i64 0, .slice none 0 0, .slice none 0 0] 40 (0, 0)) := by rw [hWD]; exact HR2A.out
        have hra' : WD.heap[rb]? = some (.cells (rowC (next.getD i [])).toArray 102 (0, 0)) := by rw [hWD]; exact HRA.out
        have hown' : WD.ownsRow w.heap.size 85 1 sv rbs.length (rbs.map slr) := by rw [hWD]; exact HOWN.out
        have hrows' : RowsAt w WD next rbs := by rw [hWD]; exact HROWS.out
        have hb' : Below w.heap.size w WD := by rw [hWD]; exact HBA.out.drew
        have hrbl : rb < WD.heap.size := by rw [hWD]; exact HRB.out
        obtain ⟨_, t1, _, _, _, _⟩ := three_cells hd'
        have hoa := hown'.alloc (.cells #[slr rb] 85)
        have hsz' := hb'.size
        rw [HRL.out] at hoa
        obtain ⟨gA, capA, wC, hrun, hoC, hgC, _, _⟩ := run_append_lies (P := Tryz.prog) (WD.alloc (.cells #[slr rb] 85)) 37 37 w.heap.size 85 i2' (.slice none 0 0) 1 24 Tryz.underlying37 hi2 hx0 hx1 hx2 rfl (by decide) _ _ _ hoa ⟨WD.heap.size, 0, none⟩ 1 1 [slr rb] rfl (cell_one_new _ _ _) (by intro u hu; simp at hu; subst hu; rfl) (by decide) (by unfold maxLen; omega) (by omega) (by simp; omega) _ rfl
        have hbal : Below WD.heap.size WD (WD.alloc (.cells #[slr rb] 85)) := (Below.refl _ _).alloc (Nat.le_refl _) _
        have hdB := (hbal.block gd (Array.getElem?_eq_some_iff.1 hd').1).trans hd'
        have hrB := (hbal.block g2 (Array.getElem?_eq_some_iff.1 hr').1).trans hr'
        have hraB := (hbal.block rb hrbl).trans hra'
        have hrowB := hrows'.below hbal
        have hnty : ∀ k, sv.ownBlock = some k → ∃ cs, (WD.alloc (.cells #[slr rb] 85)).heap[k]? = some (.cells cs 85 (0, 0)) := fun k hk => own_block_heap hoa hk
        have hdC := (hgC.block gd (Array.getElem?_eq_some_iff.1 hdB).1 (fun e => by obtain ⟨cs, hh⟩ := hnty gd e.symm; exact absurd (two_types hh hdB) (by decide))).trans hdB
        have hrC := (hgC.block g2 (Array.getElem?_eq_some_iff.1 hrB).1 (fun e => by obtain ⟨cs, hh⟩ := hnty g2 e.symm; exact absurd (two_types hh hrB) (by decide))).trans hrB
        have hraC := (hgC.block rb (Array.getElem?_eq_some_iff.1 hraB).1 (fun e => by obtain ⟨cs, hh⟩ := hnty rb e.symm; exact absurd (two_types hh hraB) (by decide))).trans hraB
        have hrowC := hrowB.grow hgC (fun k hk cs hc => by obtain ⟨cs', hh⟩ := hnty k hk; exact absurd (two_types hh hc) (by decide))
        have hbC := (hb'.trans (hbal.mono hb'.size)).trans (grown_belowR hgC hoa (by simp; omega))
        obtain ⟨_, y1, _, _, z1, _⟩ := three_cells hdC
        obtain ⟨_, ya, _, _, _, _⟩ := three_cells hdB
        rw [hWD] at hrun t1 ya
        exact ⟨gA, capA, wC, hrun, t1, ya, y1, z1, hdC, hrC, hraC, hrowC, hbC, hoC⟩
      obtain ⟨gA, capA, wC, hrun, t1, ya, y1, z1, hdC, hrC, hraC, hrowC, hbC, hoC⟩ := happ
      have HRUN := Lib.hid hrun
      have HDC := Lib.hid hdC
      have HRC := Lib.hid hrC
      have HRAC := Lib.hid hraC
      have HROWC := Lib.hid hrowC
      have HBC := Lib.hid hbC
      have HOC := Lib.hid hoC
      have td := (three_cells HDA.out).2.1
      clear hrun hdC hrC hraC hrowC hbC hoC HBA HRA HDA HR2A HOWN HROWS HRB
      go_region_law (refine step_append_runI (R := fun v' w' => Value.slice (some ⟨gA, 0, none⟩) (i + 1) capA = v' ∧ wC = w') (by rfl) _ _ _ (by rfl) _ _ (by rfl) (by rfl) ⟨_, wC, HRUN.out, rfl, rfl⟩ ?_; rintro v8 w8 ⟨e8, f8⟩; subst e8 f8)
      all_goals
       go_wp2
       go_roundw
       case rel =>
         have hs := grown_setCell wC ⟨gd, 1, none⟩ (.slice (some ⟨gA, 0, none⟩) (i + 1) capA)
         have hnum := HNUM.out
         refine ⟨i + 1, rbs ++ [rb], .slice (some ⟨gA, 0, none⟩) (i + 1) capA, by omega, by go_num, by rw [List.length_append, HRL.out]; rfl, ?_, ?_, ?_, ?_, ?_⟩
         · intro j q hj
           have hrow' := HROWC.out.grow hs (fun k hk cs hc => by
             injection hk with hk
             subst hk
             exact absurd (two_types HDC.out hc) (by decide))
           rcases Nat.lt_or_ge j rbs.length with hl | hl
           · rw [List.getElem?_append_left hl] at hj
             exact hrow' j q hj
           · have hjl := (List.getElem?_eq_some_iff.1 hj).1
             simp at hjl
             have hje : j = rbs.length := by omega
             subst hje
             simp at hj
             subst hj
             rw [HRL.out]
             refine ⟨HSZ.out, ?_⟩
             rw [heap_setCell_other _ _ _ _ (by
               rintro rfl
               exact absurd (two_types HRAC.out HDC.out) (by decide))]
             exact HRAC.out
         · rw [List.length_append, List.map_append, HRL.out]
           refine own_grow HOC.out hs ?_
           rcases hn : (Value.slice (some ⟨gA, 0, none⟩) (i + 1) capA).ownBlock with _ | q
           · exact .inl rfl
           · refine .inr fun e' => ?_
             injection e' with e'
             subst e'
             obtain ⟨cs, hh⟩ := own_block_heap HOC.out hn
             exact absurd (two_types hh HDC.out) (by decide)
         · have := Lib.heap_setCell_same (i := 1) HDC.out (.slice (some ⟨gA, 0, none⟩) (i + 1) capA)
           rw [this]
           rfl
         · rw [heap_setCell_other _ _ _ _ (by show g2 ≠ gd; omega)]
           exact HRC.out
         · exact HBC.out.setCell (p := ⟨gd, 1, none⟩) (by show w.heap.size ≤ gd; omega) _
       case measure => simp [intOf] <;> omega
    · have i1 : ¬ (i : Int) < (n : Int) := by omega
      have hin : i = n := by omega
      have hrn : rbs.length = next.length := by rw [hrl, hin]; exact HNN.out
      have hown2 := hown
      obtain ⟨hol, hoo⟩ := hown2
      have hsv1 := own_one hown
      obtain ⟨A, hA⟩ : ∃ A : Array Value, A = #[.int .i64 0, sv, .slice ao2 m cap2] := ⟨_, rfl⟩
      have hA3 : A.size = 3 := by rw [hA]; rfl
      have hA1 : A.all (·.oneCell') = true := by
        rw [hA, show (#[Value.int .i64 0, sv, .slice ao2 m cap2] : Array Value) = [Value.int .i64 0, sv, .slice ao2 m cap2].toArray from rfl, List.all_toArray]
        simp only [List.all_cons, List.all_nil, hsv1]
        rfl
      rw [← hA] at hd
      have HD := Lib.hid hd
      have HR := Lib.hid hr2
      have HA := Lib.hid hA
      have HA3 := Lib.hid hA3
      have HA1 := Lib.hid hA1
      have HOWN := Lib.hid hown
      have HROWS := Lib.hid hrows
      have HBB := Lib.hid hb
      have HRN := Lib.hid hrn
      clear hown hrows hd hr2 hb hA hA3 hA1 hsv1 hol hoo hrn hin hrl
      go_wp2_with (first
        | (refine wpList_load_row rfl 40 _ rfl gd rfl _ _ _ _ HD.out Tryz.underlying40 rfl (by rw [Tryz.infoDfa1, HA3.out]) ?_)
        | (refine wpList_store_row rfl 40 _ _ rfl g2 _ rfl rfl 40 _ HR.out (by rw [Tryz.infoDfa1, HA3.out]) (by rw [HA3.out]; rfl) HA1.out ?_))
      refine bodyPost_ret (results_cell_row rfl _ _ g2 _ _ _ _ rfl (setRow_heap _ _ _ _ _ _ HR.out) Tryz.underlying40 rfl (by rw [Tryz.infoDfa1, HA3.out])) rfl ?_
      have hg : wr.grownBy (wr.setRow g2 A) (some g2) := ⟨rfl, rfl, rfl, by simp, fun j hj hne => setRow_other _ _ _ _ (fun e' => hne (by rw [e']))⟩
      have hb1 : Below w.heap.size w (wr.setRow g2 A) := below_setRow HBB.out (by have := HNUM.out; omega) _
      have hrow2 := HROWS.out.grow hg (fun k hk cs hc => by
        injection hk with hk
        subst hk
        exact absurd (two_types HR.out hc) (by decide))
      have hown2 : (wr.setRow g2 A).ownsRow w.heap.size 85 1 sv rbs.length (rbs.map slr) := by
        refine own_grow HOWN.out hg ?_
        rcases hn : sv.ownBlock with _ | q
        · exact .inl rfl
        · refine .inr fun e' => ?_
          injection e' with e'
          subst e'
          obtain ⟨cs, hh⟩ := own_block_heap HOWN.out hn
          exact absurd (two_types hh HR.out) (by decide)
      refine ⟨sv, .slice ao2 m cap2, by rw [HA.out], ?_, (HAV.out.below (hb1.mono HB.out)).imp (Nat.le_trans HB.out hb1.size) (fun _ _ _ h => h), hb1⟩
      have hown3 := hown2
      obtain ⟨_, ⟨rfl, h0⟩ | ⟨g, cp, cur, rfl, _, hh, _⟩⟩ := hown3
      · exact ⟨none, 0, by rw [← HRN.out, h0], fun hp => by rw [← HRN.out, h0] at hp; omega⟩
      · refine ⟨_, cp, by rw [HRN.out], fun _ => ⟨g, 0, rfl, (Array.getElem?_eq_some_iff.1 hh).1, fun j r hr => ?_⟩⟩
        have hjl := (List.getElem?_eq_some_iff.1 hr).1
        have hjr : rbs[j]? = some (rbs[j]'(by rw [HRN.out]; exact hjl)) := List.getElem?_eq_getElem _
        obtain ⟨q1, q2⟩ := hrow2 j _ hjr
        refine ⟨_, (Array.getElem?_eq_some_iff.1 q2).1, ?_, fun c hc => ?_⟩
        · rw [Nat.zero_add]
          exact (own_cells hown2 (j := j) (x := slr _) (by rw [List.getElem?_map, hjr]; rfl)).2.1
        · rw [Lib.cell_of_heap q2, List.getElem?_toArray, rowC_get _ hc]
          congr 3
          rw [List.getD_eq_getElem?_getD (l := next), hr]
          rfl
end Go.Proofs.YtbkcmgjmhglghaaGreatDoor
