/-
  plural: order, known, Valid, Class.
  plural.Class.
-/
import Derived.Test.YtbkcmgjmhglghaaGreatDoorWj3
import Derived.Test.YtbkcmgjmhglghaaGreatDoorWi5
namespace Go.Proofs.YtbkcmgjmhglghaaGreatDoor
open Go.RowKit

def clsNames : List ByteArray := [⟨#[122, 101, 114, 111]⟩, ⟨#[111, 110, 101]⟩, ⟨#[116, 119, 111]⟩, ⟨#[102, 101, 119]⟩, ⟨#[109, 97, 110, 121]⟩]
def other : ByteArray := ⟨#[111, 116, 104, 101, 114]⟩
theorem ba_eq {a b : ByteArray} (h : a.toList = b.toList) : a = b := by
  rw [Lib.toList_data, Lib.toList_data] at h
  apply ByteArray.ext
  exact Array.ext' h
theorem ba_ne {a b : ByteArray} (h : a ≠ b) : (a.toList == b.toList) = false := by
  rw [beq_eq_false_iff_ne]
  exact fun e => h (ba_eq e)
theorem not_other {s : ByteArray} (h : s ∈ clsNames) : s ≠ other := by
  rintro rfl
  simp [clsNames, other] at h
theorem Tryz.infoOrd : (Tryz.prog.info? 109).map (·.size) = some 6 := by kernel_rfl
set_option maxRecDepth 100000 in
theorem order_any (w : World) : Calls Tryz.prog 62 #[] w fun e w' => e = .returned (.agg #[.string ⟨#[122, 101, 114, 111]⟩, .string ⟨#[111, 110, 101]⟩, .string ⟨#[116, 119, 111]⟩, .string ⟨#[102, 101, 119]⟩, .string ⟨#[109, 97, 110, 121]⟩, .string ⟨#[111, 116, 104, 101, 114]⟩]) ∧ Below w.heap.size w w' := by
  go_enter Tryz.func62, Tryz.ntmps62
  go_wp2
  refine bodyPost_ret (results_cell_row rfl _ _ w.heap.size _ _ _ _ rfl (heap_alloc_new w _) Tryz.underlying109 rfl (by rw [Tryz.infoOrd]; rfl)) rfl ?_
  exact ⟨rfl, (Below.refl _ _).alloc (Nat.le_refl _) _⟩
set_option maxRecDepth 100000 in
set_option maxHeartbeats 1600000 in
theorem known_any (s : ByteArray) (hs : s ∈ clsNames) (w : World) : Calls Tryz.prog 40 #[.string s] w fun e w' => e = .returned (.bool true) ∧ Below w.heap.size w w' := by
  have hord := order_any w
  obtain ⟨O, hO⟩ : ∃ O : Array Value, O = #[.string ⟨#[122, 101, 114, 111]⟩, .string ⟨#[111, 110, 101]⟩, .string ⟨#[116, 119, 111]⟩, .string ⟨#[102, 101, 119]⟩, .string ⟨#[109, 97, 110, 121]⟩, .string ⟨#[111, 116, 104, 101, 114]⟩] := ⟨_, rfl⟩
  have hcon : ∀ (W : World) (g : Nat), W.heap[g]? = some (.cells #[.string ⟨#[122, 101, 114, 111]⟩, .string ⟨#[111, 110, 101]⟩, .string ⟨#[116, 119, 111]⟩, .string ⟨#[102, 101, 119]⟩, .string ⟨#[109, 97, 110, 121]⟩, .string ⟨#[111, 116, 104, 101, 114]⟩] 109 (0, 0)) → Calls Tryz.prog 63 #[.slice (some ⟨g, 0, none⟩) 6 6, .string s] W fun e w' => e = .returned (.bool true) ∧ W = w' := by
    intro W g hh
    have hcell : ∀ j, j < 6 → W.cell? ⟨g, j, none⟩ = some (.string ((clsNames ++ [other]).getD j ByteArray.empty)) := by
      intro j hj
      rcases (show j = 0 ∨ j = 1 ∨ j = 2 ∨ j = 3 ∨ j = 4 ∨ j = 5 by omega) with rfl | rfl | rfl | rfl | rfl | rfl <;> (rw [Lib.cell_of_heap hh]; rfl)
    have h1 := Tryz.slices_Contains_string g 0 6 6 (clsNames ++ [other]) s W (by decide) (by omega) (fun j hj => by rw [Nat.zero_add]; exact hcell j hj)
    have h2 : Lib.containsS ((clsNames ++ [other]).take 6) s = true := by
      rw [Lib.containsS_iff]
      have : (clsNames ++ [other]).take 6 = clsNames ++ [other] := rfl
      rw [this]
      exact List.mem_append_left _ hs
    rw [h2] at h1
    exact h1.mono fun _ _ h => ⟨h.1, h.2.symm⟩
  have HORD := Lib.hid hord
  have HCON := Lib.hid hcon
  clear hord hcon hO
  go_enter Tryz.func40, Tryz.ntmps40
  go_upto_region 2 with (go_at_call 62; refine (HORD.out).mono ?_; rintro e w5 ⟨rfl, hb5⟩)
  go_wp2_with (go_at_call 63; refine (HCON.out _ _ (heap_alloc_new w5 _)).mono ?_; rintro e w7 ⟨rfl, rfl⟩)
  go_ret
  exact ⟨rfl, hb5.alloc hb5.size _⟩
theorem str_cells {W : World} {g : Nat} {a b : Value} (h : W.heap[g]? = some (.cells #[a, b] 34 (0, 0))) : W.cell? ⟨g, 0, none⟩ = some a ∧ W.cell? ⟨g, 1, none⟩ = some b := by
  rw [Lib.cell_of_heap h, Lib.cell_of_heap h]
  exact ⟨rfl, rfl⟩
set_option maxRecDepth 100000 in
theorem pvalid1_any (a b : ByteArray) (hab : a ≠ b) (cv : Value) (gr : Nat) (w : World) (hg : w.cell? ⟨gr, 0, none⟩ = some (.string b)) (hcv : ∃ ao n cap, cv = .slice ao n cap) :
    Calls Tryz.prog 43 #[.agg #[.string a, cv], .pointer (some ⟨gr, 0, none⟩)] w fun e w' => e = .returned (.bool false) ∧ Below w.heap.size w w' := by
  obtain ⟨ao, n, cap, rfl⟩ := hcv
  have hne := ba_ne hab
  obtain ⟨w1, hw1⟩ : ∃ w1, w1 = w.alloc (.cells #[.string a, .slice ao n cap] 34) := ⟨_, rfl⟩
  have hb1 : Below w.heap.size w w1 := by rw [hw1]; exact (Below.refl _ _).alloc (Nat.le_refl _) _
  have hg1 : w1.heap[w.heap.size]? = some (.cells #[.string a, .slice ao n cap] 34 (0, 0)) := by rw [hw1]; exact heap_alloc_new w _
  obtain ⟨x0, x1⟩ := str_cells hg1
  have y0 := (hb1.cell (p := ⟨gr, 0, none⟩) (World.block_lt_of_cell? w _ hg)).trans hg
  have HB1 := Lib.hid hb1
  clear hb1 hg1 hg hab
  go_enter Tryz.func43, Tryz.ntmps43
  go_upto_region 1 with fail
  rw [← hw1]
  clear hw1
  go_wp2
  go_ret
  exact ⟨rfl, HB1.out⟩
/-- Rules that are valid. -/
def RulesOK (l : List Rul) : Prop := (∀ r ∈ l, r.cls ∈ clsNames ∧ condB r.cond = true) ∧ ∀ (i k : Nat) (ri rk : Rul), k < i → l[i]? = some ri → l[k]? = some rk → rk.cls ≠ ri.cls
set_option maxRecDepth 100000 in
set_option maxHeartbeats 3200000 in
theorem pvalid_any (ao : Option Addr) (cap : Nat) (l : List Rul) (B : Nat) (w : World) (hv : IsRules w B (.slice ao l.length cap) l) (hB : B ≤ w.heap.size) (hl : RulesOK l) (h10 : l.length ≤ 10) (hcap : l.length ≤ cap) :
    Calls Tryz.prog 14 #[.slice ao l.length cap] w fun e w' => e = .returned (.bool true) ∧ Below w.heap.size w w' := by
  obtain ⟨ao', cap', cvs, hve, hcv, hq⟩ := rulesAt hv
  injection hve with e1 e2 e3
  subst e1 e3
  obtain ⟨n, hn⟩ : ∃ n, n = l.length := ⟨_, rfl⟩
  rw [← hn] at hq h10 hcap
  rw [← hn]
  have HCV := Lib.hid hcv
  have HQ := Lib.hid hq
  have HN := Lib.hid hn
  have HL := Lib.hid hl
  have HB := Lib.hid hB
  clear hv hcv hq hn hl hB e2
  go_enter Tryz.func14, Tryz.ntmps14
  go_wp2
  go_loopw [7] (fun iv wr => ∃ i : Nat, i ≤ n ∧ iv = .int .i64 i ∧ Below w.heap.size w wr) (fun iv _ => n - (intOf iv).toNat)
  case atStart => exact ⟨0, Nat.zero_le _, rfl, Below.refl _ _⟩
  case round =>
    obtain ⟨i, hi, rfl, hb⟩ := hrel
    have i0 : (0 : Int) ≤ (i : Int) := by omega
    have HBW := Lib.hid hb
    by_cases hlt : i < n
    · have i1 : (i : Int) < (n : Int) := by omega
      have i2 : (i : Int) ≤ (cap : Int) := by omega
      obtain ⟨r, hr⟩ : ∃ r, l[i]? = some r := ⟨_, List.getElem?_eq_getElem (by have := HN.out; omega)⟩
      obtain ⟨b, o, rfl, hbB, hqq⟩ := HQ.out (by omega)
      have cc := fun k u (h : w.cell? ⟨b, k, none⟩ = some u) => (hb.cell (p := ⟨b, k, none⟩) (by show b < w.heap.size; have := HB.out; omega)).trans h
      obtain ⟨q0, q1⟩ := hqq i r hr
      have a0 := cc _ _ q0
      have a1 := cc _ _ q1
      obtain ⟨hk1, hk2⟩ := HL.out.1 r (List.mem_of_getElem? hr)
      have hkn := fun W => known_any r.cls hk1 W
      have hno := ba_ne (not_other hk1)
      have hcvi := HCV.out i r hr
      have hval := fun W (hW : Below w.heap.size w W) => cvalid_any (cvs i) r.cond B W (hcvi.below (hW.mono HB.out)) (Nat.le_trans HB.out hW.size) hk2
      obtain ⟨ca, cp, hcve, _⟩ := hcvi
      obtain ⟨m, hm⟩ : ∃ m, m = r.cond.length := ⟨_, rfl⟩
      rw [← hm] at hcve
      rw [hcve] at a1 hval
      obtain ⟨w2, hw2⟩ : ∃ w2, w2 = wr.alloc (.cells #[.string r.cls, .slice ca m cp] 34) := ⟨_, rfl⟩
      have hb2 : Below wr.heap.size wr w2 := by rw [hw2]; exact (Below.refl _ _).alloc (Nat.le_refl _) _
      have hg2 : w2.heap[wr.heap.size]? = some (.cells #[.string r.cls, .slice ca m cp] 34 (0, 0)) := by rw [hw2]; exact heap_alloc_new wr _
      obtain ⟨x0, x1⟩ := str_cells hg2
      have hbw2 := hb.trans (hb2.mono hb.size)
      obtain ⟨r2, hr2⟩ : ∃ r2, r2 = wr.heap.size := ⟨_, rfl⟩
      rw [← hr2] at x0 x1
      have hcf : ∀ W, Below w2.heap.size w2 W → Calls Tryz.prog 42 #[.slice (some ⟨b, o, none⟩) i cap, .func (.func 43) #[] #[.pointer (some ⟨r2, 0, none⟩)]] W fun e w' => e = .returned (.bool false) ∧ Below W.heap.size W w' := fun W hW => by
        have h1 := containsFuncRul_any 43 #[.pointer (some ⟨r2, 0, none⟩)] (fun _ _ => by kernel_rfl) (some ⟨b, o, none⟩) i cap B (fun k => .string (l.getD k ⟨⟨#[]⟩, []⟩).cls) cvs (fun _ => false) W (by omega) (Nat.le_trans HB.out (Nat.le_trans hbw2.size hW.size))
          (fun _ => ⟨b, o, rfl, hbB, fun k hk => by
            obtain ⟨rk, hkr⟩ : ∃ rk, l[k]? = some rk := ⟨_, List.getElem?_eq_getElem (by have := HN.out; omega)⟩
            obtain ⟨h1, h2⟩ := hqq k _ hkr
            have e : l.getD k ⟨⟨#[]⟩, []⟩ = rk := by rw [List.getD_eq_getElem?_getD, hkr]; rfl
            have hbW := hbw2.trans (hW.mono hbw2.size)
            have cc2 := fun j u (h : w.cell? ⟨b, j, none⟩ = some u) => (hbW.cell (p := ⟨b, j, none⟩) (by show b < w.heap.size; have := HB.out; omega)).trans h
            rw [e]
            exact ⟨cc2 _ _ h1, cc2 _ _ h2⟩⟩)
          (fun W2 k hW2 hk => by
            obtain ⟨rk, hkr⟩ : ∃ rk, l[k]? = some rk := ⟨_, List.getElem?_eq_getElem (by have := HN.out; omega)⟩
            have e : l.getD k ⟨⟨#[]⟩, []⟩ = rk := by rw [List.getD_eq_getElem?_getD, hkr]; rfl
            have h12 := hW.trans (hW2.mono hW.size)
            dsimp only
            rw [e]
            obtain ⟨ca', cp', he, _⟩ := HCV.out k _ hkr
            exact (pvalid1_any rk.cls r.cls (HL.out.2 i k r _ hk hr hkr) (cvs k) r2 W2 ((h12.cell (p := ⟨r2, 0, none⟩) (World.block_lt_of_cell? w2 _ x0)).trans x0) ⟨_, _, _, he⟩).mono fun _ _ h => ⟨h.1, hW2.trans (h.2.mono hW2.size)⟩)
        rw [anyN_false (fun _ _ => rfl)] at h1
        exact h1
      obtain ⟨rc, hrc⟩ : ∃ rc, rc = r.cls := ⟨_, rfl⟩
      rw [← hrc] at a0 hkn hno hw2 x0
      have hot : other.toList = [111, 116, 104, 101, 114] := by kernel_rfl
      rw [hot] at hno
      have hno' := hno
      have HKN := Lib.hid hkn
      have HVAL := Lib.hid hval
      have HCF := Lib.hid hcf
      have HBW2 := Lib.hid hbw2
      clear hr hqq cc q0 q1 hk1 hk2 hkn hval hcf hcve hm hb2 hg2 hbw2 hrc hb hno hbB hot
      go_upto_region 4 with fail
      rw [← hw2, ← hr2]
      clear hw2 hr2 a0 a1
      go_wp2_with (first
        | (go_at_call 40; refine (HKN.out _).mono ?_; rintro e w5 ⟨rfl, hb5⟩; have y0 := (hb5.cell (p := ⟨r2, 0, none⟩) (World.block_lt_of_cell? w2 _ x0)).trans x0; have y1 := (hb5.cell (p := ⟨r2, 1, none⟩) (World.block_lt_of_cell? w2 _ x1)).trans x1; have HB5 := Lib.hid hb5; clear hb5)
        | (go_at_call 41; refine (HVAL.out _ (HBW2.out.trans (HB5.out.mono HBW2.out.size))).mono ?_; rintro e w6 ⟨rfl, hb6⟩; have HB6 := Lib.hid (HB5.out.trans (hb6.mono HB5.out.size)); clear hb6)
        | (go_at_call 42; refine (HCF.out _ HB6.out).mono ?_; rintro e w7 ⟨rfl, hb7⟩; have HB7 := Lib.hid (HB6.out.trans (hb7.mono HB6.out.size)); clear hb7))
      go_roundw
      case rel => exact ⟨i + 1, by omega, by go_num, HBW2.out.trans (HB7.out.mono HBW2.out.size)⟩
      case measure => simp [intOf] <;> omega
    · have i1 : ¬ (i : Int) < (n : Int) := by omega
      clear hb
      go_wp2
      go_ret
      exact ⟨rfl, HBW.out⟩
end Go.Proofs.YtbkcmgjmhglghaaGreatDoor
namespace Go.Proofs.YtbkcmgjmhglghaaGreatDoor
open Go.RowKit

/-- The class of a number. -/
def clsOf (l : List Rul) (x : Num) : ByteArray := match l.find? fun r => condH r.cond x with
  | some r => r.cls
  | none => other
theorem clsOf_drop {l : List Rul} {x : Num} {i : Nat} {r : Rul} (h : l[i]? = some r) : clsOf (l.drop i) x = if condH r.cond x = true then r.cls else clsOf (l.drop (i + 1)) x := by
  obtain ⟨hi, he⟩ := List.getElem?_eq_some_iff.1 h
  rw [List.drop_eq_getElem_cons hi, he]
  unfold clsOf
  rw [List.find?_cons]
  cases condH r.cond x <;> rfl
/-- A condition that every number is asked for. -/
def always : Cnd := [[⟨2, 0, true, [(0, 0)]⟩]]
theorem always_ok : condB always = true := by decide
theorem always_mem (w : World) : IsCond (((w.alloc (.cells #[.int .i64 0, .int .i64 0] 48)).alloc (.cells #[.int .i64 2, .int .i64 0, .bool true, .slice (some ⟨w.heap.size, 0, none⟩) 1 1] 51)).alloc (.cells #[.slice (some ⟨w.heap.size + 1, 0, none⟩) 1 1] 52)) (w.heap.size + 3) (.slice (some ⟨w.heap.size + 2, 0, none⟩) 1 1) always := by
  obtain ⟨w1, hw1⟩ : ∃ w1, w1 = w.alloc (.cells #[.int .i64 0, .int .i64 0] 48) := ⟨_, rfl⟩
  have s1 : w1.heap.size = w.heap.size + 1 := by rw [hw1]; simp
  have g1 : w1.heap[w.heap.size]? = some (.cells #[.int .i64 0, .int .i64 0] 48 (0, 0)) := by rw [hw1]; exact heap_alloc_new w _
  rw [← hw1]
  obtain ⟨w2, hw2⟩ : ∃ w2, w2 = w1.alloc (.cells #[.int .i64 2, .int .i64 0, .bool true, .slice (some ⟨w.heap.size, 0, none⟩) 1 1] 51) := ⟨_, rfl⟩
  have s2 : w2.heap.size = w.heap.size + 2 := by rw [hw2]; simp [s1]
  have g2 : w2.heap[w.heap.size + 1]? = some (.cells #[.int .i64 2, .int .i64 0, .bool true, .slice (some ⟨w.heap.size, 0, none⟩) 1 1] 51 (0, 0)) := by rw [hw2, ← s1]; exact heap_alloc_new w1 _
  have b12 : Below w1.heap.size w1 w2 := by rw [hw2]; exact (Below.refl _ _).alloc (Nat.le_refl _) _
  rw [← hw2]
  have g3 : (w2.alloc (.cells #[.slice (some ⟨w.heap.size + 1, 0, none⟩) 1 1] 52)).heap[w.heap.size + 2]? = some (.cells #[.slice (some ⟨w.heap.size + 1, 0, none⟩) 1 1] 52 (0, 0)) := by rw [← s2]; exact heap_alloc_new w2 _
  have b23 : Below w2.heap.size w2 (w2.alloc (.cells #[.slice (some ⟨w.heap.size + 1, 0, none⟩) 1 1] 52)) := (Below.refl _ _).alloc (Nat.le_refl _) _
  have g23 := (b23.block _ (by omega)).trans g2
  have g13 := (b23.block _ (by omega)).trans ((b12.block _ (by omega)).trans g1)
  obtain ⟨W, hW⟩ : ∃ W, W = w2.alloc (.cells #[.slice (some ⟨w.heap.size + 1, 0, none⟩) 1 1] 52) := ⟨_, rfl⟩
  rw [← hW] at g3 g23 g13 ⊢
  refine ⟨_, 1, rfl, fun _ => ⟨_, 0, rfl, by omega, fun i l hl => ?_⟩⟩
  match i with
  | 0 =>
    simp [always] at hl
    subst hl
    refine ⟨_, by rw [Lib.cell_of_heap g3]; rfl, ⟨_, 1, rfl, fun _ => ⟨_, 0, rfl, by omega, fun k r hr => ?_⟩⟩⟩
    match k with
    | 0 =>
      simp at hr
      subst hr
      refine ⟨by rw [Lib.cell_of_heap g23]; rfl, by rw [Lib.cell_of_heap g23]; rfl, by rw [Lib.cell_of_heap g23]; rfl, _, by rw [Lib.cell_of_heap g23]; rfl, ⟨_, 1, rfl, fun _ => ⟨_, 0, rfl, by omega, fun j s hs => ?_⟩⟩⟩
      match j with
      | 0 =>
        simp at hs
        subst hs
        exact ⟨by rw [Lib.cell_of_heap g13]; rfl, by rw [Lib.cell_of_heap g13]; rfl⟩
      | j + 1 => simp at hs
    | k + 1 => simp at hr
  | i + 1 => simp [always] at hl
set_option maxRecDepth 100000 in
set_option maxHeartbeats 3200000 in
theorem class_any (x : Num) (hx : x.OK) (ao : Option Addr) (cap : Nat) (l : List Rul) (B : Nat) (w : World) (hv : IsRules w B (.slice ao l.length cap) l) (hB : B ≤ w.heap.size) (hl : RulesOK l) (h10 : l.length ≤ 10) (hcap : l.length ≤ cap) (hm : Max w) :
    Calls Tryz.prog 4 #[.slice ao l.length cap, .string (numS (syms x))] w fun e w' => e = .returned (.tuple #[.string (clsOf l x), .int .i64 0]) ∧ Below w.heap.size w w' := by
  have hval := pvalid_any ao cap l B w hv hB hl h10 hcap
  obtain ⟨ao', cap', cvs, hve, hcv, hq⟩ := rulesAt hv
  injection hve with e1 e2 e3
  subst e1 e3
  have hho := fun (v : Value) (c : Cnd) (B' : Nat) (W : World) (hW : Below w.heap.size w W) (hv : IsCond W B' v c) (hB' : B' ≤ W.heap.size) (hc : condB c = true) => cHolds_any x hx v c B' W hv hB' hc (hm.below hW)
  obtain ⟨n, hn⟩ : ∃ n, n = l.length := ⟨_, rfl⟩
  rw [← hn] at hq h10 hcap hval
  rw [← hn]
  obtain ⟨A, hA⟩ : ∃ A, A = numS (syms x) := ⟨_, rfl⟩
  rw [← hA] at hho
  rw [← hA]
  obtain ⟨R, hR⟩ : ∃ R, R = clsOf l x := ⟨_, rfl⟩
  rw [← hR]
  have HCV := Lib.hid hcv
  have HQ := Lib.hid hq
  have HN := Lib.hid hn
  have HL := Lib.hid hl
  have HB := Lib.hid hB
  have HVAL := Lib.hid hval
  have HHO := Lib.hid hho
  have HR := Lib.hid hR
  clear hv hcv hq hn hl hB e2 hval hho hA hR hm hx
  go_enter Tryz.func4, Tryz.ntmps4
  go_upto_region 4 with (go_at_call 14; refine (HVAL.out).mono ?_; rintro e w5 ⟨rfl, hb5⟩)
  have hal := always_mem w5
  obtain ⟨w6, hw6⟩ : ∃ w6, w6 = (((w5.alloc (.cells #[.int .i64 0, .int .i64 0] 48)).alloc (.cells #[.int .i64 2, .int .i64 0, .bool true, .slice (some ⟨w5.heap.size, 0, none⟩) 1 1] 51)).alloc (.cells #[.slice (some ⟨w5.heap.size + 1, 0, none⟩) 1 1] 52)) := ⟨_, rfl⟩
  have hs6 : w6.heap.size = w5.heap.size + 3 := by rw [hw6]; simp
  have hb6 : Below w5.heap.size w5 w6 := by
    rw [hw6]
    exact (((Below.refl _ w5).alloc (Nat.le_refl _) _).alloc (by simp) _).alloc (by simp; omega) _
  rw [← hw6] at hal ⊢
  have hb16 := hb5.trans (hb6.mono hb5.size)
  have hho6 := HHO.out _ always _ w6 hb16 hal (by omega) always_ok
  obtain ⟨k6, hk6⟩ : ∃ k6, k6 = w5.heap.size + 1 + 1 := ⟨_, rfl⟩
  have hk6' : w5.heap.size + 2 = k6 := by omega
  rw [hk6'] at hho6
  rw [← hk6]
  have HB6 := Lib.hid hb16
  have HO6 := Lib.hid hho6
  clear hal hw6 hs6 hb6 hb16 hho6 hk6 hk6' hb5
  go_wp2_with (go_at_call 15; refine (HO6.out).mono ?_; rintro e w7 ⟨rfl, hb7⟩; have HB7 := Lib.hid (HB6.out.trans (hb7.mono HB6.out.size)); clear hb7)
  go_loopw [31] (fun iv wr => ∃ i : Nat, i ≤ n ∧ iv = .int .i64 i ∧ Below w.heap.size w wr ∧ R = clsOf (l.drop i) x) (fun iv _ => n - (intOf iv).toNat)
  case atStart => exact ⟨0, Nat.zero_le _, rfl, HB7.out, HR.out⟩
  case round =>
    obtain ⟨i, hi, rfl, hb, hR⟩ := hrel
    have i0 : (0 : Int) ≤ (i : Int) := by omega
    have HBW := Lib.hid hb
    by_cases hlt : i < n
    · have i1 : (i : Int) < (n : Int) := by omega
      obtain ⟨r, hr⟩ : ∃ r, l[i]? = some r := ⟨_, List.getElem?_eq_getElem (by have := HN.out; omega)⟩
      obtain ⟨b, o, rfl, hbB, hqq⟩ := HQ.out (by omega)
      have cc := fun k u (h : w.cell? ⟨b, k, none⟩ = some u) => (hb.cell (p := ⟨b, k, none⟩) (by show b < w.heap.size; have := HB.out; omega)).trans h
      obtain ⟨q0, q1⟩ := hqq i r hr
      have a0 := cc _ _ q0
      have a1 := cc _ _ q1
      have hcvi := HCV.out i r hr
      have hk2 := (HL.out.1 r (List.mem_of_getElem? hr)).2
      have hh := fun W (hW : Below w.heap.size w W) => HHO.out (cvs i) r.cond B W hW (hcvi.below (hW.mono HB.out)) (Nat.le_trans HB.out hW.size) hk2
      obtain ⟨ca, cp, hcve, _⟩ := hcvi
      obtain ⟨m, hm⟩ : ∃ m, m = r.cond.length := ⟨_, rfl⟩
      rw [← hm] at hcve
      rw [hcve] at a1 hh
      rw [clsOf_drop hr] at hR
      obtain ⟨CH, hCH⟩ : ∃ CH, CH = condH r.cond x := ⟨_, rfl⟩
      rw [← hCH] at hh hR
      obtain ⟨rc, hrc⟩ : ∃ rc, rc = r.cls := ⟨_, rfl⟩
      rw [← hrc] at a0 hR
      obtain ⟨w2, hw2⟩ : ∃ w2, w2 = wr.alloc (.cells #[.string rc, .slice ca m cp] 34) := ⟨_, rfl⟩
      have hb2 : Below wr.heap.size wr w2 := by rw [hw2]; exact (Below.refl _ _).alloc (Nat.le_refl _) _
      have hg2 : w2.heap[wr.heap.size]? = some (.cells #[.string rc, .slice ca m cp] 34 (0, 0)) := by rw [hw2]; exact heap_alloc_new wr _
      obtain ⟨x0, x1⟩ := str_cells hg2
      have hbw2 := hb.trans (hb2.mono hb.size)
      have HH := Lib.hid (hh w2 hbw2)
      have HBW2 := Lib.hid hbw2
      have HR2 := Lib.hid hR
      have HX0 := Lib.hid x0
      clear hr hqq cc q0 q1 hk2 hh hcve hm hCH hrc hb2 hg2 hbw2 hb hR hbB x0
      go_upto_region 10 with fail
      rw [← hw2]
      clear hw2 a0 a1
      cases CH
      · go_wp2_with (go_at_call 15; refine (HH.out).mono ?_; rintro e w8 ⟨rfl, hb8⟩; have HB8 := Lib.hid (HBW2.out.trans (hb8.mono HBW2.out.size)); clear hb8)
        go_roundw
        case rel => exact ⟨i + 1, by omega, by go_num, HB8.out, by rw [HR2.out]; rfl⟩
        case measure => simp [intOf] <;> omega
      · go_wp2_with (go_at_call 15; refine (HH.out).mono ?_; rintro e w8 ⟨rfl, hb8⟩; have y0 := (hb8.cell (p := ⟨wr.heap.size, 0, none⟩) (World.block_lt_of_cell? w2 _ HX0.out)).trans HX0.out; have HB8 := Lib.hid (HBW2.out.trans (hb8.mono HBW2.out.size)); clear hb8)
        go_ret2
        refine ⟨?_, HB8.out⟩
        rw [HR2.out]
        rfl
    · have i1 : ¬ (i : Int) < (n : Int) := by omega
      have hd : l.drop i = [] := List.drop_eq_nil_of_le (by have := HN.out; omega)
      rw [hd] at hR
      have HR2 := Lib.hid hR
      clear hb hR hd
      go_wp2
      go_ret2
      refine ⟨?_, HBW.out⟩
      rw [HR2.out]
      rfl
end Go.Proofs.YtbkcmgjmhglghaaGreatDoor
