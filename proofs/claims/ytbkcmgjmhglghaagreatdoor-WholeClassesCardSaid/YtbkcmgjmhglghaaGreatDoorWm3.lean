/-
  decide.merged.
-/
import Derived.Test.YtbkcmgjmhglghaaGreatDoorWm2
import Derived.StillTailTactics
namespace Go.Proofs.YtbkcmgjmhglghaaGreatDoor
open Go.RowKit

def keyC (l : List Nat) : List Value := l.map fun (n : Nat) => .int .i64 n
def keyV (l : List Nat) : Value := .agg (keyC l).toArray
theorem keyC_inj : ∀ (a b : List Nat), keyC a = keyC b → a = b
  | [], [], _ => rfl
  | [], _ :: _, h => by simp [keyC] at h
  | _ :: _, [], h => by simp [keyC] at h
  | x :: a, y :: b, h => by
    unfold keyC at h
    rw [List.map_cons, List.map_cons] at h
    injection h with h1 h2
    injection h1 with _ h1
    rw [keyC_inj a b h2, show x = y from by omega]
theorem keyV_inj (a b : List Nat) (h : keyV a = keyV b) : a = b := by
  unfold keyV at h
  injection h with h
  exact keyC_inj a b (congrArg Array.toList h)
theorem key12 {next : List (List Nat)} {cl : List Nat} {i : Nat} (h : (next.getD i []).length = 11) : keyV (keyL next cl i) = .agg #[.int .i64 (cl.getD i 0 : Nat), .int .i64 (cl.getD (nx next i 0) 0 : Nat), .int .i64 (cl.getD (nx next i 1) 0 : Nat), .int .i64 (cl.getD (nx next i 2) 0 : Nat), .int .i64 (cl.getD (nx next i 3) 0 : Nat), .int .i64 (cl.getD (nx next i 4) 0 : Nat), .int .i64 (cl.getD (nx next i 5) 0 : Nat), .int .i64 (cl.getD (nx next i 6) 0 : Nat), .int .i64 (cl.getD (nx next i 7) 0 : Nat), .int .i64 (cl.getD (nx next i 8) 0 : Nat), .int .i64 (cl.getD (nx next i 9) 0 : Nat), .int .i64 (cl.getD (nx next i 10) 0 : Nat)] := by
  unfold keyL nx
  generalize next.getD i [] = r at *
  obtain ⟨a0, a1, a2, a3, a4, a5, a6, a7, a8, a9, a10, rfl⟩ := row11 h
  rfl
theorem key_some {next : List (List Nat)} {cl : List Nat} {i n : Nat} (h : (next.getD i []).length = 11) (hs : ∀ j, cl.getD j 0 < n) (hn : n ≤ 1000002) : ∃ kl, keyOf Tryz.prog 106 (keyV (keyL next cl i)) = some kl := by
  have := key_key (cl.getD i 0) ((next.getD i []).map fun j => ((cl.getD j 0 : Nat) : Int)) (by simpa using h) ⟨by omega, by have := hs i; omega⟩ (fun a ha => by
    obtain ⟨j, _, rfl⟩ := List.mem_map.1 ha
    exact ⟨by omega, by have := hs j; omega⟩)
  unfold keyV keyC keyL
  rw [List.map_map] at this
  rw [List.map_cons, List.map_map]
  exact this
/-- A key's block, c of its places filled. -/
def krow (next : List (List Nat)) (cl : List Nat) (i c : Nat) : List Nat := (List.range c).map fun q => cl.getD (nx next i q) 0
theorem krow_len (next : List (List Nat)) (cl : List Nat) (i c : Nat) : (krow next cl i c).length = c := by simp [krow]
theorem krow_snoc (next : List (List Nat)) (cl : List Nat) (i c : Nat) : krow next cl i (c + 1) = krow next cl i c ++ [cl.getD (nx next i c) 0] := by simp [krow, List.range_succ]
theorem krow_get (next : List (List Nat)) (cl : List Nat) (i : Nat) {q : Nat} (hq : q < 11) : (krow next cl i 11).getD q 0 = cl.getD (nx next i q) 0 := by
  unfold krow
  rw [List.getD_eq_getElem?_getD, List.getElem?_map, List.getElem?_range hq]
  rfl
def KeyRow (W : World) (g x : Nat) (r : List Nat) : Prop := W.heap[g]? = some (.cells (.int .i64 (x : Int) :: rowC r).toArray 106 (0, 0))
theorem KeyRow.c0 {W : World} {g x : Nat} {r : List Nat} (h : KeyRow W g x r) : W.cell? ⟨g, 0, none⟩ = some (.int .i64 (x : Int)) := by
  rw [Lib.cell_of_heap h]
  rfl
theorem KeyRow.cell {W : World} {g x : Nat} {r : List Nat} (h : KeyRow W g x r) {c : Nat} (hc : c < 11) : W.cell? ⟨g, 1 + c, none⟩ = some (.int .i64 ((r.getD c 0 : Nat) : Int)) ∧ W.frozen? ⟨g, 1 + c, none⟩ = false := by
  refine ⟨?_, Lib.frozen_of_heap h _⟩
  rw [Lib.cell_of_heap h, List.getElem?_toArray, Nat.add_comm, List.getElem?_cons_succ]
  exact rowC_get r hc
theorem KeyRow.set {W : World} {g x : Nat} {r : List Nat} (h : KeyRow W g x r) (hl : r.length < 11) (y : Nat) : KeyRow (W.setCell ⟨g, 1 + r.length, none⟩ (.int .i64 (y : Int))) g x (r ++ [y]) := by
  have := Lib.heap_setCell_same (i := 1 + r.length) h (.int .i64 (y : Int))
  unfold KeyRow
  rw [this, rowC_snoc r y hl, Nat.add_comm 1]
  simp
theorem IntRow.other {W : World} {g : Nat} {L : List Nat} (h : IntRow W g L) {a : Addr} (ha : g ≠ a.block) (u : Value) : IntRow (W.setCell a u) g L := by
  unfold IntRow
  rw [heap_setCell_other _ _ _ _ ha]
  exact h
theorem wpList_mlen {S : Type} [DecidableEq S] {ops : Array Oper} {rest : List Oper} {o : Oper} {a : Act} {Q : Exit → Act → World → Prop} {w : World} (hg : o.guard = none) (m : Operand) (t : TypeId) (hop : o.op = Op.call { callee := Callee.builtin Builtin.len, args := #[m], argTypes := #[t] })
    (k : TypeId) (ht : Tryz.prog.underlying t = some (.map k 3)) (enc : S → Value) (U st : List S) (b : Nat) (hm : a.eval m = .map (some b)) (h : MapIs k enc U w b st)
    (hK : wpList Tryz.prog ops Q rest (a.put o.dst (.int .i64 st.length)) w) : wpList Tryz.prog ops Q (o :: rest) a w := by
  obtain ⟨D, n, h1, h2, h3, h4⟩ := h
  refine wpList_len_own w hg m t hop k 3 ht _ b n D hm h1 ?_
  rw [h3]
  exact hK
theorem wpList_index {ops : Array Oper} {rest : List Oper} {o : Oper} {a : Act} {Q : Exit → Act → World → Prop} {w : World} (hg : o.guard = none) (x y : Operand) (t : TypeId) (hop : o.op = Op.index t x y)
    (arr v i : Value) (hx : a.eval x = arr) (hy : a.eval y = i) (hrun : (Instr.index t arr i).run Tryz.prog w = .ok v w) (hK : wpList Tryz.prog ops Q rest (a.put o.dst v) w) : wpList Tryz.prog ops Q (o :: rest) a w := by
  refine wpList_plain hg fun K' hK' => ?_
  unfold Oper.wp
  simp [execOp, hop, hx, hy, hrun, Result.andThen]
  exact hK' _ _ hK
theorem two_slices {W : World} {g i : Nat} {a1 a2 : Option Addr} {n1 c1 n2 c2 : Nat} {t : TypeId} (h : W.heap[g]? = some (.cells #[.slice a1 n1 c1, .slice a2 n2 c2] t (0, 0))) : (∀ z, W.cell? ⟨g, i, none⟩ ≠ some (.int .i64 z)) ∧ ∀ z, W.cell? ⟨g, i, none⟩ ≠ some (.bool z) := by
  rw [Lib.cell_of_heap h]
  rcases i with _ | _ | i
  · exact ⟨fun z h => by simp at h, fun z h => by simp at h⟩
  · exact ⟨fun z h => by simp at h, fun z h => by simp at h⟩
  · exact ⟨fun z h => by simp at h, fun z h => by simp at h⟩
theorem IsNext.setAt {W : World} {B g : Nat} {v : Value} {next : List (List Nat)} (h : IsNext W B v next) {a1 a2 : Option Addr} {n1 c1 n2 c2 : Nat} {t : TypeId} (hg : W.heap[g]? = some (.cells #[.slice a1 n1 c1, .slice a2 n2 c2] t (0, 0))) (i : Nat) (u : Value) : IsNext (W.setCell ⟨g, i, none⟩ u) B v next := by
  obtain ⟨ao, cap, rfl, h⟩ := h
  refine ⟨ao, cap, rfl, fun hp => ?_⟩
  obtain ⟨b, o, rfl, hb, hc⟩ := h hp
  refine ⟨b, o, rfl, hb, fun j r hr c hcc => ?_⟩
  have hne : b ≠ g := by
    rintro rfl
    exact (two_slices hg).1 _ (hc j r hr c hcc)
  rw [World.cell?_of_block (w := W) (heap_setCell_other _ _ _ _ hne)]
  exact hc j r hr c hcc
theorem IsBools.setAt {W : World} {B g : Nat} {v : Value} {l : List Bool} (h : IsBools W B v l) {a1 a2 : Option Addr} {n1 c1 n2 c2 : Nat} {t : TypeId} (hg : W.heap[g]? = some (.cells #[.slice a1 n1 c1, .slice a2 n2 c2] t (0, 0))) (i : Nat) (u : Value) : IsBools (W.setCell ⟨g, i, none⟩ u) B v l := by
  obtain ⟨ao, cap, rfl, h⟩ := h
  refine ⟨ao, cap, rfl, fun hp => ?_⟩
  obtain ⟨b, o, rfl, hb, hc⟩ := h hp
  refine ⟨b, o, rfl, hb, fun j x hx => ?_⟩
  have hne : b ≠ g := by
    rintro rfl
    exact (two_slices hg).2 _ (hc j x hx)
  rw [World.cell?_of_block (w := W) (heap_setCell_other _ _ _ _ hne)]
  exact hc j x hx
/-- What merged gives back: a table that accepts the same. -/
def MergP {S : Type} (start : S) (step : S → Nat → S) (acc : S → Bool) (w : World) (e : Ending) (w' : World) : Prop :=
  ∃ (nv av : Value) (start2 : Nat) (step2 : Nat → Nat → Nat) (acc2 : Nat → Bool) (st2 : List Nat) (next2 : List (List Nat)) (ac2 : List Bool), e = .returned (.agg #[nv, av]) ∧ IsTab st2 start2 step2 acc2 next2 ac2 ∧ IsNext w' w'.heap.size nv next2 ∧ IsBools w' w'.heap.size av ac2 ∧ st2.length ≤ 1000000 ∧ Below w.heap.size w w' ∧
    ∀ u : List Nat, (∀ c ∈ u, c < 11) → ac2.getD (runT next2 0 u) false = acc (u.foldl step start)
set_option maxRecDepth 100000 in
set_option maxHeartbeats 6400000 in
theorem merged_any {S : Type} (st : List S) (start : S) (step : S → Nat → S) (acc : S → Bool) (next : List (List Nat)) (ac : List Bool) (nv av : Value) (B : Nat) (w : World) (hT : IsTab st start step acc next ac) (hnv : IsNext w B nv next) (hav : IsBools w B av ac) (hB : B ≤ w.heap.size) (hst : st.length ≤ 1000000) :
    Calls Tryz.prog 34 #[.agg #[nv, av]] w (MergP start step acc w) := by
  have hnv' := hnv
  have hav' := hav
  obtain ⟨ao, cap, rfl, hnc⟩ := hnv'
  obtain ⟨ao2, cap2, rfl, hac⟩ := hav'
  have hpos := hT.pos
  have hnl := hT.nlen
  have hal := hT.alen
  obtain ⟨b, o, rfl, hbB, hncc⟩ := hnc (by omega)
  obtain ⟨b2, o2, rfl, hbB2, hacc⟩ := hac (by omega)
  obtain ⟨n, hn⟩ : ∃ n, n = st.length := ⟨_, rfl⟩
  rw [hnl, ← hn] at hnv ⊢
  rw [hal, ← hn] at hav ⊢
  have hn1 : n ≤ 1000000 := by omega
  have hn0 : 0 < n := by omega
  have hrows : ∀ i, i < n → (next.getD i []).length = 11 := fun i hi => hT.row i _ (List.getElem?_eq_getElem (by omega))
  have hlts : ∀ i c, i < n → c < 11 → nx next i c < n := fun i c hi hc => by
    have := hT.lt (i := i) (c := c) (by omega) hc
    omega
  have hmk := fun W => run_make_row' (P := Tryz.prog) 85 3 (.int .i64 0) 8 Tryz.underlying85 Tryz.infoInt rfl .i64 .i64 n (by omega) (by omega) W
  have mk : ∀ W : World, (Instr.makeMap 104 none).run Tryz.prog W = .ok (.map (some W.heap.size)) (W.alloc (.map #[] 0)) := fun _ => rfl
  have HT := Lib.hid hT
  have HNV := Lib.hid hnv
  have HAV := Lib.hid hav
  have HNCC := Lib.hid hncc
  have HACC := Lib.hid hacc
  have HROWS := Lib.hid hrows
  have HLTS := Lib.hid hlts
  have HN := Lib.hid hn
  have HAL := Lib.hid (hal.trans hn.symm)
  have HNL := Lib.hid (hnl.trans hn.symm)
  have HB := Lib.hid hB
  have HbB := Lib.hid hbB
  have HbB2 := Lib.hid hbB2
  clear hT hnv hav hnc hac hncc hacc hrows hlts hn hpos hnl hal hst hB hbB hbB2
  go_enter Tryz.func34, Tryz.ntmps34
  go_wp2
  have hmw : MW w ((((w.alloc (.cells #[.slice (some ⟨b, o, none⟩) n cap, .slice (some ⟨b2, o2, none⟩) n cap2] 67)).alloc (.cells #[.slice none 0 0, .slice none 0 0] 67)).alloc (.cells (madeCells #[.int .i64 0] n) 3)).alloc (.cells #[.slice (some ⟨w.heap.size + 1 + 1, 0, none⟩) n n] 85))
      w.heap.size (w.heap.size + 1) (w.heap.size + 1 + 1 + 1) (w.heap.size + 1 + 1) n (.slice (some ⟨b, o, none⟩) n cap) (.slice (some ⟨b2, o2, none⟩) n cap2) (cl0 ac 0) := by
    obtain ⟨p0, p1, pb, ps⟩ := alloc2 w #[.slice (some ⟨b, o, none⟩) n cap, .slice (some ⟨b2, o2, none⟩) n cap2] #[.slice none 0 0, .slice none 0 0] 67 67
    generalize ((w.alloc (.cells #[.slice (some ⟨b, o, none⟩) n cap, .slice (some ⟨b2, o2, none⟩) n cap2] 67)).alloc (.cells #[.slice none 0 0, .slice none 0 0] 67)) = wz at *
    have hr := made_row wz n
    rw [ps] at hr
    have hz : (wz.alloc (.cells (madeCells #[.int .i64 0] n) 3)).heap.size = w.heap.size + 3 := by simp [ps]
    have b1 : Below wz.heap.size wz (wz.alloc (.cells (madeCells #[.int .i64 0] n) 3)) := (Below.refl _ _).alloc (Nat.le_refl _) _
    generalize wz.alloc (.cells (madeCells #[.int .i64 0] n) 3) = wy at *
    have b2' : Below wy.heap.size wy (wy.alloc (.cells #[.slice (some ⟨w.heap.size + 1 + 1, 0, none⟩) n n] 85)) := (Below.refl _ _).alloc (Nat.le_refl _) _
    have hv := heap_alloc_new wy (.cells #[.slice (some ⟨w.heap.size + 1 + 1, 0, none⟩) n n] 85)
    rw [hz] at hv
    refine ⟨?_, ?_, hv, ?_, ?_, Nat.le_refl _, by omega, by omega, by omega, by omega⟩
    · rw [b2'.block _ (by omega), b1.block _ (by omega)]; exact p0
    · rw [b2'.block _ (by omega), b1.block _ (by omega)]; exact p1
    · rw [cl0_zero, HAL.out]
      exact (b2'.block _ (by omega)).trans hr
    · exact pb.trans ((b1.mono (by omega)).trans (b2'.mono (by omega)))
  obtain ⟨wA, hwA⟩ : ∃ wA, wA = ((((w.alloc (.cells #[.slice (some ⟨b, o, none⟩) n cap, .slice (some ⟨b2, o2, none⟩) n cap2] 67)).alloc (.cells #[.slice none 0 0, .slice none 0 0] 67)).alloc (.cells (madeCells #[.int .i64 0] n) 3)).alloc (.cells #[.slice (some ⟨w.heap.size + 1 + 1, 0, none⟩) n n] 85)) := ⟨_, rfl⟩
  rw [← hwA] at hmw
  rw [← hwA]
  clear hwA
  obtain ⟨gb, hgb⟩ : ∃ gb, gb = w.heap.size := ⟨_, rfl⟩
  obtain ⟨g2, hg2⟩ : ∃ g2, g2 = w.heap.size + 1 := ⟨_, rfl⟩
  obtain ⟨ck0, hck⟩ : ∃ ck0, ck0 = w.heap.size + 1 + 1 := ⟨_, rfl⟩
  obtain ⟨gc, hgc⟩ : ∃ gc, gc = w.heap.size + 1 + 1 + 1 := ⟨_, rfl⟩
  have hgs : w.heap.size = gb ∧ g2 = gb + 1 ∧ ck0 = gb + 2 ∧ gc = gb + 3 := by omega
  rw [← hgc, ← hck, ← hg2, ← hgb] at hmw
  rw [← hgc, ← hck, ← hg2, ← hgb]
  have HMW := Lib.hid hmw
  have HGS := Lib.hid hgs
  clear hmw hgs hg2 hck hgc hgb
  go_loopw [25] (fun iv wr => ∃ i : Nat, i ≤ n ∧ iv = .int .i64 i ∧ MW w wr gb g2 gc ck0 n (.slice (some ⟨b, o, none⟩) n cap) (.slice (some ⟨b2, o2, none⟩) n cap2) (cl0 ac i)) (fun iv _ => n - (intOf iv).toNat)
  case atStart => exact ⟨0, Nat.zero_le _, rfl, HMW.out⟩
  case round =>
    obtain ⟨i, hi, rfl, hmw⟩ := hrel
    have i0 : (0 : Int) ≤ (i : Int) := by omega
    by_cases hlt : i < n
    · have i1 : (i : Int) < (n : Int) := by omega
      have e0 := HACC.out i _ (List.getElem?_eq_getElem (by have := HAL.out; omega))
      have ev : ac[i]'(by have := HAL.out; omega) = ac.getD i false := by
        rw [List.getD_eq_getElem?_getD, List.getElem?_eq_getElem (by have := HAL.out; omega)]
        rfl
      rw [ev] at e0
      have e1 := (hmw.bel.cell (p := ⟨b2, o2 + i, none⟩) (by show b2 < w.heap.size; have := HbB2.out; have := HB.out; omega)).trans e0
      have hal : i < ac.length := by have := HAL.out; omega
      cases ha : ac.getD i false with
      | true =>
        rw [ha] at e1
        obtain ⟨c0, _⟩ := hmw.varc
        have c1 := hmw.row.cell (i := i) (by rw [cl0_len]; exact hal)
        have f1 := hmw.row.frozen i
        have HM2 := Lib.hid hmw
        have HTR := Lib.hid (cl0_true ac i hal ha)
        clear hmw e0 ev ha hal
        go_wp2
        go_roundw
        case rel =>
          have := HM2.out.setRow (by have := HGS.out; omega) (by have := HGS.out; omega) (by have := HGS.out; omega) i 1
          rw [HTR.out] at this
          exact ⟨i + 1, by omega, by go_num, this⟩
        case measure => simp [intOf] <;> omega
      | false =>
        rw [ha] at e1
        have HM2 := Lib.hid hmw
        have HTR := Lib.hid (cl0_false ac i ha)
        clear hmw e0 ev ha hal
        go_wp2
        go_roundw
        case rel => exact ⟨i + 1, by omega, by go_num, by rw [← HTR.out]; exact HM2.out⟩
        case measure => simp [intOf] <;> omega
    · have i1 : ¬ (i : Int) < (n : Int) := by omega
      have hin : i = n := by omega
      rw [hin] at hmw
      clear hin
      have HM2 := Lib.hid hmw
      clear hmw HMW
      go_wp2
      go_loopw [6] (fun kv wr => ∃ (k : Nat) (cl : List Nat) (ck : Nat), kv = .int .i64 k ∧ (k = 0 ∨ Cls n k cl) ∧ k ≤ n ∧ cl.length = n ∧ AccOK n ac cl ∧ (∀ j, cl.getD j 0 < n + 2) ∧ ck ≠ gb ∧ ck ≠ g2 ∧ ck ≠ gc ∧ MW w wr gb g2 gc ck n (.slice (some ⟨b, o, none⟩) n cap) (.slice (some ⟨b2, o2, none⟩) n cap2) cl) (fun kv _ => n + 1 - (intOf kv).toNat)
      case atStart =>
        have hal := HAL.out
        refine ⟨0, cl0 ac n, ck0, rfl, .inl rfl, Nat.zero_le _, by rw [cl0_len]; exact hal, ?_, fun j => ?_, by have := HGS.out; omega, by have := HGS.out; omega, by have := HGS.out; omega, HM2.out⟩
        · have := cl0_acc ac
          rw [hal] at this
          exact this
        · have := cl0_lt ac j
          rw [hal] at this
          omega
      case round =>
        obtain ⟨k, cl, ck, rfl, hck, hkn, hln, hao, hlt2, hn1', hn2', hn3', hmw⟩ := hrel
        obtain ⟨c0, f0⟩ := hmw.varc
        obtain ⟨bx0, _, _, _⟩ := tab_cells hmw.box
        have hlts := hmw.lts
        have hmwsz := hmw.bel.size
        have hgcw := hmw.hc
        have hmi : MapIs 106 keyV ((List.range n).map (keyL next cl)) ((wr.alloc (.map #[] 0)).alloc (.cells (madeCells #[.int .i64 0] n) 3)) wr.heap.size ([] : List (List Nat)) := (MapIs.made wr).below ((Below.refl _ _).alloc (Nat.le_refl _) _)
        have hb1 : Below wr.heap.size wr (wr.alloc (.map #[] 0)) := (Below.refl _ _).alloc (Nat.le_refl _) _
        have hb2 : Below (wr.alloc (.map #[] 0)).heap.size (wr.alloc (.map #[] 0)) ((wr.alloc (.map #[] 0)).alloc (.cells (madeCells #[.int .i64 0] n) 3)) := (Below.refl _ _).alloc (Nat.le_refl _) _
        have hmw1 := (hmw.below hb1).below hb2
        have hfr := made_row (wr.alloc (.map #[] 0)) n
        rw [show (wr.alloc (.map #[] 0)).heap.size = wr.heap.size + 1 from by simp] at hfr
        have d0 : (wr.alloc (.map #[] 0)).cell? ⟨gc, 0, none⟩ = some (.slice (some ⟨ck, 0, none⟩) n n) := (hmw.below hb1).varc.1
        have d1 : ((wr.alloc (.map #[] 0)).alloc (.cells (madeCells #[.int .i64 0] n) 3)).cell? ⟨gb, 0, none⟩ = some (.slice (some ⟨b, o, none⟩) n cap) := (tab_cells hmw1.box).1
        have HCK := Lib.hid hck
        have HLN := Lib.hid hln
        have HAO := Lib.hid hao
        have HLT2 := Lib.hid hlt2
        have HNE := Lib.hid (And.intro hn1' (And.intro hn2' hn3'))
        have HMI := Lib.hid hmi
        have HMW1 := Lib.hid hmw1
        have HFR := Lib.hid hfr
        have HLTS2 := Lib.hid hlts
        have HSZ := Lib.hid hmwsz
        clear hck hln hao hlt2 hn1' hn2' hn3' hmi hb1 hb2 hmw1 hfr hmw hlts hmwsz hgcw HM2
        go_wp2
        obtain ⟨mb, hmb⟩ : ∃ mb, mb = wr.heap.size := ⟨_, rfl⟩
        obtain ⟨fk, hfk⟩ : ∃ fk, fk = wr.heap.size + 1 := ⟨_, rfl⟩
        have hnum : mb = wr.heap.size ∧ fk = mb + 1 ∧ gb < mb ∧ g2 < mb ∧ gc < mb ∧ ck < mb ∧ w.heap.size ≤ mb := by
          have := HLTS2.out
          have := HSZ.out
          omega
        rw [← hmb] at HMI
        rw [← hfk] at HFR
        rw [← hfk, ← hmb]
        have HNUM := Lib.hid hnum.2
        clear hnum hmb hfk HLTS2 HSZ c0 f0 bx0 d0 d1
        go_loopw [42] (fun iv wr => ∃ (i : Nat) (ks : List (List Nat)) (fin : List Nat), i ≤ n ∧ iv = .int .i64 i ∧ Rnd n next cl i ks fin ∧ MapIs 106 keyV ((List.range n).map (keyL next cl)) wr mb ks ∧ IntRow wr fk fin ∧ MW w wr gb g2 gc ck n (.slice (some ⟨b, o, none⟩) n cap) (.slice (some ⟨b2, o2, none⟩) n cap2) cl) (fun iv _ => n - (intOf iv).toNat)
        case atStart => exact ⟨0, [], List.replicate n 0, Nat.zero_le _, rfl, ⟨by simp, by simp, fun _ h => by omega, fun _ h => by simp at h⟩, HMI.out, HFR.out, HMW1.out⟩
        case round =>
          obtain ⟨i, ks, fin, hi, rfl, hrnd, hmi, hfr, hmw⟩ := hrel
          have i0 : (0 : Int) ≤ (i : Int) := by omega
          by_cases hlt : i < n
          · have i1 : (i : Int) < (n : Int) := by omega
            have hr11 := HROWS.out i hlt
            have hcell : ∀ q, q < 11 → wr.cell? ⟨b, o + i * 11 + q, none⟩ = some (.int .i64 (nx next i q : Nat)) := fun q hq => by
              have h1 := HNCC.out i _ (List.getElem?_eq_getElem (by have := HNL.out; omega)) q hq
              have e : (next[i]'(by have := HNL.out; omega)).getD q 0 = nx next i q := by
                unfold nx
                rw [List.getD_eq_getElem?_getD (l := next), List.getElem?_eq_getElem (by have := HNL.out; omega)]
                rfl
              rw [e] at h1
              exact (hmw.bel.cell (p := ⟨b, o + i * 11 + q, none⟩) (by show b < w.heap.size; have := HbB.out; have := HB.out; omega)).trans h1
            have e0 := hcell 0 (by omega)
            rw [Nat.add_zero] at e0
            have e1 := hcell 1 (by omega)
            have e2 := hcell 2 (by omega)
            have e3 := hcell 3 (by omega)
            have e4 := hcell 4 (by omega)
            have e5 := hcell 5 (by omega)
            have e6 := hcell 6 (by omega)
            have e7 := hcell 7 (by omega)
            have e8 := hcell 8 (by omega)
            have e9 := hcell 9 (by omega)
            have e10 := hcell 10 (by omega)
            obtain ⟨c0, f0⟩ := hmw.varc
            have ccl := hmw.row.cell (i := i) (by rw [HLN.out]; exact hlt)
            have hba : Below wr.heap.size wr (wr.alloc (.cells #[.int .i64 (nx next i 0 : Nat), .int .i64 (nx next i 1 : Nat), .int .i64 (nx next i 2 : Nat), .int .i64 (nx next i 3 : Nat), .int .i64 (nx next i 4 : Nat), .int .i64 (nx next i 5 : Nat), .int .i64 (nx next i 6 : Nat), .int .i64 (nx next i 7 : Nat), .int .i64 (nx next i 8 : Nat), .int .i64 (nx next i 9 : Nat), .int .i64 (nx next i 10 : Nat)] 102)) := (Below.refl _ _).alloc (Nat.le_refl _) _
            have c0a := (hmw.below hba).varc.1
            have ccla := (hmw.below hba).row.cell (i := i) (by rw [HLN.out]; exact hlt)
            have hkr : KeyRow ((wr.alloc (.cells #[.int .i64 (nx next i 0 : Nat), .int .i64 (nx next i 1 : Nat), .int .i64 (nx next i 2 : Nat), .int .i64 (nx next i 3 : Nat), .int .i64 (nx next i 4 : Nat), .int .i64 (nx next i 5 : Nat), .int .i64 (nx next i 6 : Nat), .int .i64 (nx next i 7 : Nat), .int .i64 (nx next i 8 : Nat), .int .i64 (nx next i 9 : Nat), .int .i64 (nx next i 10 : Nat)] 102)).alloc (.cells #[.int .i64 (cl.getD i 0 : Nat), .int .i64 0, .int .i64 0, .int .i64 0, .int .i64 0, .int .i64 0, .int .i64 0, .int .i64 0, .int .i64 0, .int .i64 0, .int .i64 0, .int .i64 0] 106)) (wr.heap.size + 1) (cl.getD i 0) (krow next cl i 0) := by
              have := heap_alloc_new (wr.alloc (.cells #[.int .i64 (nx next i 0 : Nat), .int .i64 (nx next i 1 : Nat), .int .i64 (nx next i 2 : Nat), .int .i64 (nx next i 3 : Nat), .int .i64 (nx next i 4 : Nat), .int .i64 (nx next i 5 : Nat), .int .i64 (nx next i 6 : Nat), .int .i64 (nx next i 7 : Nat), .int .i64 (nx next i 8 : Nat), .int .i64 (nx next i 9 : Nat), .int .i64 (nx next i 10 : Nat)] 102)) (.cells #[.int .i64 (cl.getD i 0 : Nat), .int .i64 0, .int .i64 0, .int .i64 0, .int .i64 0, .int .i64 0, .int .i64 0, .int .i64 0, .int .i64 0, .int .i64 0, .int .i64 0, .int .i64 0] 106)
              rw [show (wr.alloc (.cells #[.int .i64 (nx next i 0 : Nat), .int .i64 (nx next i 1 : Nat), .int .i64 (nx next i 2 : Nat), .int .i64 (nx next i 3 : Nat), .int .i64 (nx next i 4 : Nat), .int .i64 (nx next i 5 : Nat), .int .i64 (nx next i 6 : Nat), .int .i64 (nx next i 7 : Nat), .int .i64 (nx next i 8 : Nat), .int .i64 (nx next i 9 : Nat), .int .i64 (nx next i 10 : Nat)] 102)).heap.size = wr.heap.size + 1 from by simp] at this
              exact this
            have hbb : Below wr.heap.size wr ((wr.alloc (.cells #[.int .i64 (nx next i 0 : Nat), .int .i64 (nx next i 1 : Nat), .int .i64 (nx next i 2 : Nat), .int .i64 (nx next i 3 : Nat), .int .i64 (nx next i 4 : Nat), .int .i64 (nx next i 5 : Nat), .int .i64 (nx next i 6 : Nat), .int .i64 (nx next i 7 : Nat), .int .i64 (nx next i 8 : Nat), .int .i64 (nx next i 9 : Nat), .int .i64 (nx next i 10 : Nat)] 102)).alloc (.cells #[.int .i64 (cl.getD i 0 : Nat), .int .i64 0, .int .i64 0, .int .i64 0, .int .i64 0, .int .i64 0, .int .i64 0, .int .i64 0, .int .i64 0, .int .i64 0, .int .i64 0, .int .i64 0] 106)) := hba.alloc (by simp) _
            have hrb : ((wr.alloc (.cells #[.int .i64 (nx next i 0 : Nat), .int .i64 (nx next i 1 : Nat), .int .i64 (nx next i 2 : Nat), .int .i64 (nx next i 3 : Nat), .int .i64 (nx next i 4 : Nat), .int .i64 (nx next i 5 : Nat), .int .i64 (nx next i 6 : Nat), .int .i64 (nx next i 7 : Nat), .int .i64 (nx next i 8 : Nat), .int .i64 (nx next i 9 : Nat), .int .i64 (nx next i 10 : Nat)] 102)).alloc (.cells #[.int .i64 (cl.getD i 0 : Nat), .int .i64 0, .int .i64 0, .int .i64 0, .int .i64 0, .int .i64 0, .int .i64 0, .int .i64 0, .int .i64 0, .int .i64 0, .int .i64 0, .int .i64 0] 106)).heap[wr.heap.size]? = some (.cells #[.int .i64 (nx next i 0 : Nat), .int .i64 (nx next i 1 : Nat), .int .i64 (nx next i 2 : Nat), .int .i64 (nx next i 3 : Nat), .int .i64 (nx next i 4 : Nat), .int .i64 (nx next i 5 : Nat), .int .i64 (nx next i 6 : Nat), .int .i64 (nx next i 7 : Nat), .int .i64 (nx next i 8 : Nat), .int .i64 (nx next i 9 : Nat), .int .i64 (nx next i 10 : Nat)] 102 (0, 0)) := (alloc2 wr _ _ _ _).1
            have r0q : ∀ q (v : Value), (#[.int .i64 (nx next i 0 : Nat), .int .i64 (nx next i 1 : Nat), .int .i64 (nx next i 2 : Nat), .int .i64 (nx next i 3 : Nat), .int .i64 (nx next i 4 : Nat), .int .i64 (nx next i 5 : Nat), .int .i64 (nx next i 6 : Nat), .int .i64 (nx next i 7 : Nat), .int .i64 (nx next i 8 : Nat), .int .i64 (nx next i 9 : Nat), .int .i64 (nx next i 10 : Nat)] : Array Value)[q]? = some v → ((wr.alloc (.cells #[.int .i64 (nx next i 0 : Nat), .int .i64 (nx next i 1 : Nat), .int .i64 (nx next i 2 : Nat), .int .i64 (nx next i 3 : Nat), .int .i64 (nx next i 4 : Nat), .int .i64 (nx next i 5 : Nat), .int .i64 (nx next i 6 : Nat), .int .i64 (nx next i 7 : Nat), .int .i64 (nx next i 8 : Nat), .int .i64 (nx next i 9 : Nat), .int .i64 (nx next i 10 : Nat)] 102)).alloc (.cells #[.int .i64 (cl.getD i 0 : Nat), .int .i64 0, .int .i64 0, .int .i64 0, .int .i64 0, .int .i64 0, .int .i64 0, .int .i64 0, .int .i64 0, .int .i64 0, .int .i64 0, .int .i64 0] 106)).cell? ⟨wr.heap.size, q, none⟩ = some v := fun q v hv => by
              rw [Lib.cell_of_heap hrb]
              exact hv
            have r1 := r0q 0 _ rfl
            have r2 := r0q 1 _ rfl
            have r3 := r0q 2 _ rfl
            have r4 := r0q 3 _ rfl
            have r5 := r0q 4 _ rfl
            have r6 := r0q 5 _ rfl
            have r7 := r0q 6 _ rfl
            have r8 := r0q 7 _ rfl
            have r9 := r0q 8 _ rfl
            have r10 := r0q 9 _ rfl
            have r11 := r0q 10 _ rfl
            have hmi2 := hmi.below hbb
            have hfr2 := hfr.below hbb
            have hmw2 := hmw.below hbb
            have hlw := hmw.lts
            have hfl := hfr.lt
            have hml := hmi.lt
            obtain ⟨gk, hgk⟩ : ∃ gk, gk = wr.heap.size + 1 := ⟨_, rfl⟩
            have hgn : gb < gk ∧ g2 < gk ∧ gc < gk ∧ ck < gk ∧ fk < gk ∧ mb < gk ∧ w.heap.size ≤ gk := by
              have := HNUM.out
              omega
            rw [← hgk] at hkr
            have HKR := Lib.hid hkr
            have HMI2 := Lib.hid hmi2
            have HFR2 := Lib.hid hfr2
            have HMW2 := Lib.hid hmw2
            have HGN := Lib.hid hgn
            have HRND := Lib.hid hrnd
            clear hcell hba hkr hbb hrb r0q hmi2 hfr2 hmw2 hlw hfl hml hgn hrnd hmi hfr hmw f0
            go_wp2
            rw [← hgk]
            clear hgk
            go_loopw [53] (fun cv wr => ∃ c : Nat, c ≤ 11 ∧ cv = .int .i64 c ∧ KeyRow wr gk (cl.getD i 0) (krow next cl i c) ∧ MapIs 106 keyV ((List.range n).map (keyL next cl)) wr mb ks ∧ IntRow wr fk fin ∧ MW w wr gb g2 gc ck n (.slice (some ⟨b, o, none⟩) n cap) (.slice (some ⟨b2, o2, none⟩) n cap2) cl) (fun cv _ => 11 - (intOf cv).toNat)
            case atStart => exact ⟨0, by omega, rfl, HKR.out, HMI2.out, HFR2.out, HMW2.out⟩
            case round =>
              obtain ⟨c, hc, rfl, hkr, hmi, hfr, hmw⟩ := hrel
              by_cases hc11 : c < 11
              · have hnx := HLTS.out i c hlt hc11
                obtain ⟨c0, f0⟩ := hmw.varc
                have cx := hmw.row.cell (i := nx next i c) (by rw [HLN.out]; exact hnx)
                obtain ⟨kc, kf⟩ := hkr.cell hc11
                have hsetK := hkr.set (by rw [krow_len]; exact hc11) (cl.getD (nx next i c) 0)
                rw [krow_len, ← krow_snoc] at hsetK
                have hmiS : MapIs 106 keyV ((List.range n).map (keyL next cl)) (wr.setCell ⟨gk, 1 + c, none⟩ (.int .i64 ((cl.getD (nx next i c) 0 : Nat) : Int))) mb ks := hmi.setAt hkr _ _
                have hfrS : IntRow (wr.setCell ⟨gk, 1 + c, none⟩ (.int .i64 ((cl.getD (nx next i c) 0 : Nat) : Int))) fk fin := hfr.other (by show fk ≠ gk; have := HGN.out; omega) _
                have hmwS := hmw.set (k := gk) (by have := HGN.out; omega) (by have := HGN.out; omega) (by have := HGN.out; omega) (by have := HGN.out; omega) (by have := HGN.out; omega) (1 + c) (.int .i64 ((cl.getD (nx next i c) 0 : Nat) : Int))
                have HSK := Lib.hid hsetK
                have HSM := Lib.hid hmiS
                have HSF := Lib.hid hfrS
                have HSW := Lib.hid hmwS
                clear hsetK hmiS hfrS hmwS hkr hmi hfr hmw f0
                have n0 : (0 : Int) ≤ (nx next i c : Nat) := by omega
                have n1 : ((nx next i c : Nat) : Int) < (n : Int) := by omega
                clear hnx
                rcases (show c = 0 ∨ c = 1 ∨ c = 2 ∨ c = 3 ∨ c = 4 ∨ c = 5 ∨ c = 6 ∨ c = 7 ∨ c = 8 ∨ c = 9 ∨ c = 10 by omega) with rfl | rfl | rfl | rfl | rfl | rfl | rfl | rfl | rfl | rfl | rfl
                · go_wp2_with (refine wpList_index rfl _ _ 102 rfl _ (.int .i64 (nx next i 0 : Nat)) _ rfl rfl (by kernel_rfl) ?_)
                  go_roundw
                  case rel => exact ⟨1, by omega, by go_num, HSK.out, HSM.out, HSF.out, HSW.out⟩
                  case measure => simp [intOf]
                · go_wp2_with (refine wpList_index rfl _ _ 102 rfl _ (.int .i64 (nx next i 1 : Nat)) _ rfl rfl (by kernel_rfl) ?_)
                  go_roundw
                  case rel => exact ⟨2, by omega, by go_num, HSK.out, HSM.out, HSF.out, HSW.out⟩
                  case measure => simp [intOf]
                · go_wp2_with (refine wpList_index rfl _ _ 102 rfl _ (.int .i64 (nx next i 2 : Nat)) _ rfl rfl (by kernel_rfl) ?_)
                  go_roundw
                  case rel => exact ⟨3, by omega, by go_num, HSK.out, HSM.out, HSF.out, HSW.out⟩
                  case measure => simp [intOf]
                · go_wp2_with (refine wpList_index rfl _ _ 102 rfl _ (.int .i64 (nx next i 3 : Nat)) _ rfl rfl (by kernel_rfl) ?_)
                  go_roundw
                  case rel => exact ⟨4, by omega, by go_num, HSK.out, HSM.out, HSF.out, HSW.out⟩
                  case measure => simp [intOf]
                · go_wp2_with (refine wpList_index rfl _ _ 102 rfl _ (.int .i64 (nx next i 4 : Nat)) _ rfl rfl (by kernel_rfl) ?_)
                  go_roundw
                  case rel => exact ⟨5, by omega, by go_num, HSK.out, HSM.out, HSF.out, HSW.out⟩
                  case measure => simp [intOf]
                · go_wp2_with (refine wpList_index rfl _ _ 102 rfl _ (.int .i64 (nx next i 5 : Nat)) _ rfl rfl (by kernel_rfl) ?_)
                  go_roundw
                  case rel => exact ⟨6, by omega, by go_num, HSK.out, HSM.out, HSF.out, HSW.out⟩
                  case measure => simp [intOf]
                · go_wp2_with (refine wpList_index rfl _ _ 102 rfl _ (.int .i64 (nx next i 6 : Nat)) _ rfl rfl (by kernel_rfl) ?_)
                  go_roundw
                  case rel => exact ⟨7, by omega, by go_num, HSK.out, HSM.out, HSF.out, HSW.out⟩
                  case measure => simp [intOf]
                · go_wp2_with (refine wpList_index rfl _ _ 102 rfl _ (.int .i64 (nx next i 7 : Nat)) _ rfl rfl (by kernel_rfl) ?_)
                  go_roundw
                  case rel => exact ⟨8, by omega, by go_num, HSK.out, HSM.out, HSF.out, HSW.out⟩
                  case measure => simp [intOf]
                · go_wp2_with (refine wpList_index rfl _ _ 102 rfl _ (.int .i64 (nx next i 8 : Nat)) _ rfl rfl (by kernel_rfl) ?_)
                  go_roundw
                  case rel => exact ⟨9, by omega, by go_num, HSK.out, HSM.out, HSF.out, HSW.out⟩
                  case measure => simp [intOf]
                · go_wp2_with (refine wpList_index rfl _ _ 102 rfl _ (.int .i64 (nx next i 9 : Nat)) _ rfl rfl (by kernel_rfl) ?_)
                  go_roundw
                  case rel => exact ⟨10, by omega, by go_num, HSK.out, HSM.out, HSF.out, HSW.out⟩
                  case measure => simp [intOf]
                · go_wp2_with (refine wpList_index rfl _ _ 102 rfl _ (.int .i64 (nx next i 10 : Nat)) _ rfl rfl (by kernel_rfl) ?_)
                  go_roundw
                  case rel => exact ⟨11, by omega, by go_num, HSK.out, HSM.out, HSF.out, HSW.out⟩
                  case measure => simp [intOf]
              · have c11 : ¬ (c : Int) < 11 := by omega
                have hc : c = 11 := by omega
                subst hc
                have qz := hkr.c0
                have q0 := (hkr.cell (c := 0) (by omega)).1
                rw [krow_get next cl i (by omega : 0 < 11)] at q0
                have q1 := (hkr.cell (c := 1) (by omega)).1
                rw [krow_get next cl i (by omega : 1 < 11)] at q1
                have q2 := (hkr.cell (c := 2) (by omega)).1
                rw [krow_get next cl i (by omega : 2 < 11)] at q2
                have q3 := (hkr.cell (c := 3) (by omega)).1
                rw [krow_get next cl i (by omega : 3 < 11)] at q3
                have q4 := (hkr.cell (c := 4) (by omega)).1
                rw [krow_get next cl i (by omega : 4 < 11)] at q4
                have q5 := (hkr.cell (c := 5) (by omega)).1
                rw [krow_get next cl i (by omega : 5 < 11)] at q5
                have q6 := (hkr.cell (c := 6) (by omega)).1
                rw [krow_get next cl i (by omega : 6 < 11)] at q6
                have q7 := (hkr.cell (c := 7) (by omega)).1
                rw [krow_get next cl i (by omega : 7 < 11)] at q7
                have q8 := (hkr.cell (c := 8) (by omega)).1
                rw [krow_get next cl i (by omega : 8 < 11)] at q8
                have q9 := (hkr.cell (c := 9) (by omega)).1
                rw [krow_get next cl i (by omega : 9 < 11)] at q9
                have q10 := (hkr.cell (c := 10) (by omega)).1
                rw [krow_get next cl i (by omega : 10 < 11)] at q10
                have hkeyU : keyL next cl i ∈ (List.range n).map (keyL next cl) := List.mem_map_of_mem (List.mem_range.2 hlt)
                have hkv := key12 (next := next) (cl := cl) (i := i) (HROWS.out i hlt)
                obtain ⟨kl, hkl⟩ := key_some (next := next) (cl := cl) (i := i) (n := n + 2) (HROWS.out i hlt) HLT2.out (by omega)
                obtain ⟨kk, hkk⟩ : ∃ kk, kk = keyL next cl i := ⟨_, rfl⟩
                rw [← hkk] at hkeyU hkv hkl
                have hfc := hfr.cell (i := i) (by rw [HRND.out.len]; exact hlt)
                have hff := hfr.frozen i
                have hks := HRND.out.le
                have HKK := Lib.hid hkk
                have HKU := Lib.hid hkeyU
                have HKV := Lib.hid hkv
                have HKL := Lib.hid hkl
                have HM4 := Lib.hid hmi
                have HF4 := Lib.hid hfr
                have HW4 := Lib.hid hmw
                have HR4 := Lib.hid hkr
                have HKS := Lib.hid hks
                clear hkk hkeyU hkv hkl hmi hfr hmw hkr hks
                have fkn : fk ≠ gb ∧ fk ≠ g2 ∧ fk ≠ gc ∧ fk ≠ ck ∧ w.heap.size ≤ fk ∧ fk ≠ mb := by have := HNUM.out; omega
                have HFKN := Lib.hid fkn
                clear fkn
                by_cases hm : kk ∈ ks
                · have hd : memD kk ks = true := memD_true hm
                  obtain ⟨j, hjl, hj⟩ := List.getElem_of_mem hm
                  have hj' : ks[j]? = some kk := by rw [← hj]; exact List.getElem?_eq_getElem hjl
                  have HJ := Lib.hid hj'
                  clear hj hj' hm hjl
                  go_wp2_with (at_lookup; refine wpList_look rfl _ _ 104 rfl 106 Tryz.keyedKey Tryz.underlying104 keyV _ ks mb rfl HM4.out kk HKU.out kl HKL.out (by rw [HKV.out]; rfl) ?_; intro n3 hn3; obtain rfl := hn3 j HJ.out; clear hn3)
                  go_roundw
                  case rel =>
                    have hold := HRND.out.old hlt (q := j) (by rw [← HKK.out]; exact HJ.out)
                    obtain ⟨z1, z2, z3, z4, z5, z6⟩ := HFKN.out
                    exact ⟨i + 1, ks, fin.set i j, by omega, by go_num, hold, HM4.out.setAt HF4.out _ _, HF4.out.set i j, HW4.out.set z5 z1 z2 z3 z4 i _⟩
                  case measure => simp [intOf] <;> omega
                · have hd : memD kk ks = false := memD_false hm
                  have HM := Lib.hid hm
                  clear hm
                  go_wp2_with (first
                    | (at_lookup; refine wpList_look rfl _ _ 104 rfl 106 Tryz.keyedKey Tryz.underlying104 keyV _ ks mb rfl HM4.out kk HKU.out kl HKL.out (by rw [HKV.out]; rfl) ?_; intro n3 hn3; clear hn3)
                    | (refine wpList_mlen rfl _ 104 rfl 106 Tryz.underlying104 keyV _ ks mb rfl HM4.out ?_)
                    | (refine wpList_put rfl _ _ _ 104 (.inl rfl) 106 Tryz.keyedKey Tryz.underlying104 keyV keyV_inj _ ks mb rfl HM4.out (by have := HKS.out; omega) kk HKU.out kl HKL.out HM.out (by rw [HKV.out]; rfl) rfl ?_; intro w4 hm4 hg4
                       have hf5 : IntRow w4 fk fin := (hg4.block fk HF4.out.lt (fun e => by injection e with e; exact HFKN.out.2.2.2.2.2 e)).trans HF4.out
                       have hw5 := HW4.out.mapped HM4.out.isMap (by have := HNUM.out; omega) hg4
                       have fc5 := hf5.cell (i := i) (by rw [HRND.out.len]; exact hlt)
                       have ff5 := hf5.frozen i
                       have HM5 := Lib.hid hm4
                       have HF5 := Lib.hid hf5
                       have HW5 := Lib.hid hw5
                       clear hm4 hg4 hf5 hw5))
                  go_roundw
                  case rel =>
                    have hnew := HRND.out.new hlt (by rw [← HKK.out]; exact HM.out)
                    rw [← HKK.out] at hnew
                    obtain ⟨z1, z2, z3, z4, z5, z6⟩ := HFKN.out
                    exact ⟨i + 1, ks ++ [kk], fin.set i ks.length, by omega, by go_num, hnew, HM5.out.setAt HF5.out _ _, HF5.out.set i ks.length, HW5.out.set z5 z1 z2 z3 z4 i _⟩
                  case measure => simp [intOf] <;> omega
          · have i1 : ¬ (i : Int) < (n : Int) := by omega
            have hin : i = n := by omega
            rw [hin] at hrnd
            have hfin := hrnd.finer
            have hkpos : 0 < ks.length := by
              have := hfin.cls.lt 0 hn0
              omega
            have hkle := hrnd.le
            have hlk2 : ∀ j, fin.getD j 0 < n + 2 := fun j => by
              by_cases hj : j < n
              · have := hfin.cls.lt j hj
                omega
              · rw [List.getD_eq_getElem?_getD, List.getElem?_eq_none (by rw [hrnd.len]; omega)]
                show 0 < n + 2
                omega
            obtain ⟨c0, f0⟩ := hmw.varc
            have hmS : MapIs 106 keyV ((List.range n).map (keyL next cl)) (wr.setCell ⟨gc, 0, none⟩ (.slice (some ⟨fk, 0, none⟩) n n)) mb ks := hmi.setAt hmw.var 0 _
            have hmwS := hmw.setVar (by have := HGS.out; omega) (by have := HGS.out; omega) hfr (by have := HNUM.out; omega) (by have := HNUM.out; omega)
            have hgrow : k ≤ ks.length := by
              rcases HCK.out with h | h
              · omega
              · exact hfin.le h
            have haf := hfin.acc HAO.out
            have HFIN := Lib.hid hfin
            have HMS := Lib.hid hmS
            have HMWS := Lib.hid hmwS
            have HKLE := Lib.hid hkle
            have HLK2 := Lib.hid hlk2
            have HAF := Lib.hid haf
            have HRND := Lib.hid hrnd
            clear hin hrnd hfin hmi hfr hmw hmS hmwS hkle hlk2 haf HMI HFR HMW1
            by_cases hkk : ks.length = k
            · have hkb : ((ks.length : Int) == (k : Int)) = true := by simp [hkk]
              have hk0 : 0 < k := by omega
              have hcls : Cls n k cl := by
                rcases HCK.out with h | h
                · omega
                · exact h
              have hmk2 := fun W => run_make_row' (P := Tryz.prog) 85 3 (.int .i64 0) 8 Tryz.underlying85 Tryz.infoInt rfl .i64 .i64 k (by omega) (by omega) W
              have hst := HFIN.out
              rw [hkk] at hst
              have hstab := hst.stable hcls HROWS.out HLTS.out
              obtain ⟨wS, hwS⟩ : ∃ wS, wS = wr.setCell ⟨gc, 0, none⟩ (.slice (some ⟨fk, 0, none⟩) n n) := ⟨_, rfl⟩
              have hsz : wS.heap.size = wr.heap.size := by rw [hwS]; simp
              have hmw9 := HMWS.out
              rw [← hwS] at hmw9
              obtain ⟨u0, u1, ub, us⟩ := alloc2 wS (madeCells #[.int .i64 0] k) #[.slice (some ⟨wr.heap.size, 0, none⟩) k k] 3 85
              have hmwE := hmw9.below (ub.mono (Nat.le_refl _))
              have cE := hmwE.varc.1
              have hfE : IntRow ((wS.alloc (.cells (madeCells #[.int .i64 0] k) 3)).alloc (.cells #[.slice (some ⟨wr.heap.size, 0, none⟩) k k] 85)) wr.heap.size (List.replicate k 0) := by
                have h1 := made_row wS k
                rw [hsz] at h1
                have h2 : Below (wS.alloc (.cells (madeCells #[.int .i64 0] k) 3)).heap.size (wS.alloc (.cells (madeCells #[.int .i64 0] k) 3)) ((wS.alloc (.cells (madeCells #[.int .i64 0] k) 3)).alloc (.cells #[.slice (some ⟨wr.heap.size, 0, none⟩) k k] 85)) := (Below.refl _ _).alloc (Nat.le_refl _) _
                exact h1.below h2
              rw [hsz] at u1
              have hlw := hmw9.lts
              rw [hsz] at hlw
              obtain ⟨f2, hf2⟩ : ∃ f2, f2 = wr.heap.size := ⟨_, rfl⟩
              obtain ⟨gf, hgf⟩ : ∃ gf, gf = wr.heap.size + 1 := ⟨_, rfl⟩
              have hnum2 : gf = f2 + 1 ∧ gb < f2 ∧ g2 < f2 ∧ gc < f2 ∧ fk < f2 ∧ w.heap.size ≤ f2 := by
                have := HNUM.out
                omega
              rw [hwS] at hmwE cE hfE u1
              rw [← hgf] at u1
              have HST := Lib.hid hstab
              have HCF := Lib.hid hst.cls
              have HKK := Lib.hid hkk
              have HME := Lib.hid hmwE
              have HFE := Lib.hid hfE
              have HU1 := Lib.hid u1
              have HN2 := Lib.hid hnum2
              clear hstab hst hcls hkk hwS hsz hmw9 u0 u1 ub us hmwE hfE hlw hnum2
              go_wp2_with (refine wpList_mlen rfl _ 104 rfl 106 Tryz.underlying104 keyV _ ks mb rfl HMS.out ?_)
              rw [← hgf]
              rw [← hf2] at HFE HU1 HME ⊢
              clear hgf hf2 cE
              go_loopw [17] (fun iv wr => ∃ (i : Nat) (fi : List Nat), i ≤ n ∧ iv = .int .i64 ((i : Int) - 1) ∧ Fst n k fin i fi ∧ IntRow wr f2 fi ∧ wr.heap[gf]? = some (.cells #[.slice (some ⟨f2, 0, none⟩) k k] 85 (0, 0)) ∧ MW w wr gb g2 gc fk n (.slice (some ⟨b, o, none⟩) n cap) (.slice (some ⟨b2, o2, none⟩) n cap2) fin) (fun iv _ => (intOf iv + 1).toNat)
              case atStart => exact ⟨n, List.replicate k 0, Nat.le_refl _, rfl, ⟨by simp, fun j h1 h2 => by omega⟩, HFE.out, HU1.out, HME.out⟩
              case round =>
                obtain ⟨i, fi, hi, rfl, hfst, hfr, hgf, hmw⟩ := hrel
                by_cases hi0 : 0 < i
                · obtain ⟨i', rfl⟩ : ∃ i', i = i' + 1 := ⟨i - 1, by omega⟩
                  have e1 : (((i' + 1 : Nat) : Int) - 1) = (i' : Int) := by omega
                  rw [e1]
                  have j0 : (0 : Int) ≤ (i' : Int) := by omega
                  have j1 : (i' : Int) < (n : Int) := by omega
                  have hin : i' < n := by omega
                  have ccl := hmw.row.cell (i := i') (by rw [HCF.out.len]; exact hin)
                  have hlt := HCF.out.lt i' hin
                  have cfi := hfr.cell (i := fin.getD i' 0) (by rw [hfst.len]; exact hlt)
                  have ffi := hfr.frozen (fin.getD i' 0)
                  have cv := hmw.varc.1
                  have cg : wr.cell? ⟨gf, 0, none⟩ = some (.slice (some ⟨f2, 0, none⟩) k k) := by rw [Lib.cell_of_heap hgf]; rfl
                  obtain ⟨q, hq⟩ : ∃ q, q = fin.getD i' 0 := ⟨_, rfl⟩
                  have hst2 := hfst.step HCF.out hin
                  rw [← hq] at hlt cfi ffi ccl hst2
                  have q0 : (0 : Int) ≤ (q : Int) := by omega
                  have q1 : (q : Int) < (k : Int) := by omega
                  have HF6 := Lib.hid hfr
                  have HG6 := Lib.hid hgf
                  have HW6 := Lib.hid hmw
                  have HS6 := Lib.hid hst2
                  clear hfst hfr hgf hmw hq hst2 hlt hin
                  go_wp2_with fail
                  refine wp_region_still_tail 7 (by kernel_rfl) (by kernel_rfl) ?_
                  obtain ⟨WD, hWD⟩ : ∃ WD : World, WD = { wr with drawn := wr.drawn + 1 } := ⟨_, rfl⟩
                  rw [← hWD]
                  have ccl' : WD.cell? ⟨fk, i', none⟩ = some (.int .i64 (q : Int)) := by rw [hWD]; exact ccl
                  have cfi' : WD.cell? ⟨f2, q, none⟩ = some (.int .i64 ((fi.getD q 0 : Nat) : Int)) := by rw [hWD]; exact cfi
                  have ffi' : WD.frozen? ⟨f2, q, none⟩ = false := by rw [hWD]; exact ffi
                  have cv' : WD.cell? ⟨gc, 0, none⟩ = some (.slice (some ⟨fk, 0, none⟩) n n) := by rw [hWD]; exact cv
                  have cg' : WD.cell? ⟨gf, 0, none⟩ = some (.slice (some ⟨f2, 0, none⟩) k k) := by rw [hWD]; exact cg
                  have hf6 : IntRow WD f2 fi := by rw [hWD]; exact HF6.out
                  have hg6 : WD.heap[gf]? = some (.cells #[.slice (some ⟨f2, 0, none⟩) k k] 85 (0, 0)) := by rw [hWD]; exact HG6.out
                  have hw6 : MW w WD gb g2 gc fk n (.slice (some ⟨b, o, none⟩) n cap) (.slice (some ⟨b2, o2, none⟩) n cap2) fin := by
                    rw [hWD]
                    exact ⟨HW6.out.box, HW6.out.res, HW6.out.var, HW6.out.row, ⟨HW6.out.bel.os, HW6.out.bel.tape, HW6.out.bel.output, HW6.out.bel.size, HW6.out.bel.block⟩, HW6.out.hb, HW6.out.h2, HW6.out.hc, HW6.out.hk, HW6.out.ne⟩
                  have HF7 := Lib.hid hf6
                  have HG7 := Lib.hid hg6
                  have HW7 := Lib.hid hw6
                  clear hWD ccl cfi ffi cv cg hf6 hg6 hw6
                  simp only [List.take_succ_cons, List.take_zero, List.drop_succ_cons, List.drop_zero]
                  repeat still_step
                  refine wpStill_nil ?_
                  go_wp2
                  go_roundw
                  case rel =>
                    have hn := HN2.out
                    refine ⟨i', fi.set q i', by omega, by go_num, HS6.out, HF7.out.set q i', ?_, HW7.out.set (by omega) (by omega) (by omega) (by omega) (by omega) q _⟩
                    rw [heap_setCell_other _ _ _ _ (by show gf ≠ f2; omega)]
                    exact HG7.out
                  case measure => simp [intOf] <;> omega
                · have hi0' : i = 0 := by omega
                  subst hi0'
                  have e1 : (((0 : Nat) : Int) - 1) = -1 := by omega
                  rw [e1]
                  have hall := hfst.all HCF.out
                  have cv := hmw.varc.1
                  have cg : wr.cell? ⟨gf, 0, none⟩ = some (.slice (some ⟨f2, 0, none⟩) k k) := by rw [Lib.cell_of_heap hgf]; rfl
                  have cc0 := hmw.row.cell (i := 0) (by rw [HCF.out.len]; exact hn0)
                  obtain ⟨t0, _, t1, _⟩ := tab_cells hmw.box
                  have hnv6 := HNV.out.below (hmw.bel.mono HB.out)
                  have hav6 := HAV.out.below (hmw.bel.mono HB.out)
                  have n0 : (0 : Int) < (n : Int) := by omega
                  have hfl := hfst.len
                  have hexp := exploreI_any (fin.getD 0 0) (List.range k) (fun x c => fin.getD (nx next (fi.getD x 0) c) 0) (fun x => ac.getD (fi.getD x 0) false) 58 59
                    #[.pointer (some ⟨gc, 0, none⟩), .pointer (some ⟨gb, 0, none⟩), .pointer (some ⟨gf, 0, none⟩)] #[.pointer (some ⟨gb, 0, none⟩), .pointer (some ⟨gf, 0, none⟩)] (fun _ _ => by kernel_rfl) (fun _ _ => by kernel_rfl) wr
                    (List.mem_range.2 (HCF.out.lt 0 hn0)) (fun s hs c hc => List.mem_range.2 (HCF.out.lt _ (HLTS.out _ c (hall s (List.mem_range.1 hs)).1 hc))) (by rw [List.length_range]; omega) (fun s hs => by have := List.mem_range.1 hs; omega)
                    (fun W s c hW hs hc => by
                      have hs' := List.mem_range.1 hs
                      exact merged1_any s c n k fk f2 gc gb gf B _ next fin fi W ((hW.cell (p := ⟨gc, 0, none⟩) (World.block_lt_of_cell? wr _ cv)).trans cv) ((hW.cell (p := ⟨gb, 0, none⟩) (World.block_lt_of_cell? wr _ t0)).trans t0) ((hW.cell (p := ⟨gf, 0, none⟩) (World.block_lt_of_cell? wr _ cg)).trans cg)
                        (hnv6.below (hW.mono (Nat.le_trans HB.out hmw.bel.size))) (hmw.row.below hW) (hfr.below hW) HCF.out.len HNL.out hfl hs' hc (hall s hs').1 (HLTS.out _ c (hall s hs').1 hc))
                    (fun W s hW hs => by
                      have hs' := List.mem_range.1 hs
                      exact merged2_any s n k f2 gb gf B _ ac fi W ((hW.cell (p := ⟨gb, 1, none⟩) (World.block_lt_of_cell? wr _ t1)).trans t1) ((hW.cell (p := ⟨gf, 0, none⟩) (World.block_lt_of_cell? wr _ cg)).trans cg)
                        (hav6.below (hW.mono (Nat.le_trans HB.out hmw.bel.size))) (hfr.below hW) HAL.out hfl hs' (hall s hs').1)
                  have hmr : ∀ (st2 : List Nat) (next2 : List (List Nat)) (ac2 : List Bool), IsTab st2 (fin.getD 0 0) (fun x c => fin.getD (nx next (fi.getD x 0) c) 0) (fun x => ac.getD (fi.getD x 0) false) next2 ac2 → ∀ u : List Nat, (∀ c ∈ u, c < 11) → ac2.getD (runT next2 0 u) false = acc (u.foldl step start) := fun st2 next2 ac2 h2 u hu => by
                    have hN := HN.out
                    exact merged_run HT.out (k := k) (cl := fin) (fi := fi) (by rw [← hN]; exact HCF.out) (by rw [← hN]; exact HAF.out) (by rw [← hN]; exact HST.out) (by rw [← hN]; exact hall) h2 hu
                  have HEXP := Lib.hid hexp
                  have HMR := Lib.hid hmr
                  have HRES := Lib.hid hmw.res
                  have HBE := Lib.hid hmw.bel
                  have H2G := Lib.hid hmw.h2
                  clear hfst hfr hgf hmw hall hnv6 hav6 hfl hexp hmr t0 t1 cg
                  go_wp2_with (go_at_call 57; refine (HEXP.out).mono ?_; rintro e w9 ⟨nv9, av9, st9, next9, ac9, rfl, ht9, hn9, ha9, hl9, hb9⟩; have hn9' := hn9; have ha9' := ha9; obtain ⟨ao9, cap9, rfl, _⟩ := hn9'; obtain ⟨ao8, cap8, rfl, _⟩ := ha9'; obtain ⟨m9, hm9⟩ : ∃ m9, m9 = next9.length := ⟨_, rfl⟩; obtain ⟨m8, hm8⟩ : ∃ m8, m8 = ac9.length := ⟨_, rfl⟩; have hrs := (hb9.block g2 (Array.getElem?_eq_some_iff.1 HRES.out).1).trans HRES.out; obtain ⟨x0, x1, x2, x3⟩ := tab_cells hrs; rw [← hm9] at hn9 ⊢; rw [← hm8] at ha9 ⊢; have HRS := Lib.hid hrs; clear hrs hm9 hm8; have HT9 := Lib.hid ht9; have HN9 := Lib.hid hn9; have HA9 := Lib.hid ha9; have HL9 := Lib.hid hl9; have HB9 := Lib.hid hb9; clear ht9 hn9 ha9 hl9 hb9)
                  refine bodyPost_ret (results_cell_row rfl _ _ g2 _ _ _ _ rfl (set2 HRS.out) Tryz.underlying67 rfl (by rw [Tryz.infoTab1]; rfl)) rfl ?_
                  have hr1 := Lib.heap_setCell_same (i := 0) HRS.out (.slice ao9 m9 cap9)
                  refine ⟨_, _, _, _, _, _, _, _, rfl, HT9.out, ?_, ?_, by have := HL9.out; rw [List.length_range] at this; omega, ?_, HMR.out _ _ _ HT9.out⟩
                  · exact ((HN9.out.setAt HRS.out 0 _).setAt hr1 1 _).imp (by simp) fun _ _ _ h => h
                  · exact ((HA9.out.setAt HRS.out 0 _).setAt hr1 1 _).imp (by simp) fun _ _ _ h => h
                  · exact ((HBE.out.trans (HB9.out.mono HBE.out.size)).setCell (p := ⟨g2, 0, none⟩) H2G.out _).setCell (p := ⟨g2, 1, none⟩) H2G.out _
            · have hkb : ((ks.length : Int) == (k : Int)) = false := by simp; omega
              go_wp2_with (refine wpList_mlen rfl _ 104 rfl 106 Tryz.underlying104 keyV _ ks mb rfl HMS.out ?_)
              go_roundw
              case rel => exact ⟨ks.length, fin, fk, rfl, .inr HFIN.out.cls, by have := HKLE.out; omega, HRND.out.len, HAF.out, HLK2.out, by have := HNUM.out; omega, by have := HNUM.out; omega, by have := HNUM.out; omega, HMWS.out⟩
              case measure =>
                have := HKLE.out
                simp [intOf]
                omega
end Go.Proofs.YtbkcmgjmhglghaaGreatDoor
