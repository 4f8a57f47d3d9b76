/-
  decimal: Valid, Operand.
  condition.in, holds, Holds.
-/
import Derived.Test.YtbkcmgjmhglghaaGreatDoorWj1
import Derived.Test.YtbkcmgjmhglghaaGreatDoorWf3
import Derived.Test.YtbkcmgjmhglghaaGreatDoorWi5
namespace Go.Proofs.YtbkcmgjmhglghaaGreatDoor
open Go.RowKit

/-- The cell of internal/bytealg.MaxLen. -/
def Max (w : World) : Prop := ∃ m, w.cell? ⟨0, 0, none⟩ = some (.int .i64 m)
theorem Max.below {w w' : World} (h : Max w) (hb : Below w.heap.size w w') : Max w' := by
  obtain ⟨m, h⟩ := h
  exact ⟨m, (hb.cell (p := ⟨0, 0, none⟩) (World.block_lt_of_cell? w _ h)).trans h⟩
theorem num_cells {W : World} {g : Nat} {a b c : Value} (h : W.heap[g]? = some (.cells #[a, b, c] 113 (0, 0))) : W.cell? ⟨g, 0, none⟩ = some a ∧ W.cell? ⟨g, 1, none⟩ = some b ∧ W.cell? ⟨g, 2, none⟩ = some c := by
  obtain ⟨h0, h1, h2, _⟩ := three_cells h
  exact ⟨h0, h1, h2⟩
set_option maxRecDepth 100000 in
set_option maxHeartbeats 1600000 in
theorem nvalid_any (x : Num) (hx : x.OK) (w : World) (hm : Max w) : Calls Tryz.prog 44 #[.string (numS (syms x))] w fun e w' => e = .returned (.bool true) ∧ Below w.heap.size w w' := by
  have hs := split_any x hx w hm
  obtain ⟨A, hA⟩ : ∃ A, A = numS (syms x) := ⟨_, rfl⟩
  rw [← hA] at hs ⊢
  have HS := Lib.hid hs
  clear hs hA
  go_enter Tryz.func44, Tryz.ntmps44
  go_wp2_with (go_at_call 67; refine (HS.out).mono ?_; rintro e w5 ⟨rfl, hb5⟩)
  go_ret
  exact ⟨rfl, hb5.alloc hb5.size _⟩
/-- What Operand tells. -/
def opdI (x : Num) (op : Int) : Int × Int := match opd x op with
  | none => (0, 8)
  | some v => ((v : Nat), 0)
set_option maxRecDepth 100000 in
set_option maxHeartbeats 3200000 in
theorem operand_any (x : Num) (hx : x.OK) (op : Int) (hop : 1 ≤ op ∧ op ≤ 6) (w : World) (hm : Max w) :
    Calls Tryz.prog 70 #[.string (numS (syms x)), .int .i64 op] w fun e w' => e = .returned (.tuple #[.int .i64 (opdI x op).1, .int .i64 (opdI x op).2]) ∧ Below w.heap.size w w' := by
  have hs := split_any x hx w hm
  obtain ⟨hd1, hd2, hw1, hw15, hw0, hf6⟩ := hx
  have hdt := trim_digs hd2
  have htl := trim_len x.fr
  have htr := fun W => Tryz.strings_TrimRight_one (numS x.fr) 48 (by decide) W (by rw [numS_size]; omega)
  rw [numS_list, trimR_num x.fr hd2] at htr
  have hvw := fun W => value_any x.wh hd1 (by omega) W
  have hvf := fun W => value_any x.fr hd2 (by omega) W
  have hvt := fun W => value_any (trim x.fr) hdt (by omega) W
  have sf : (numS x.fr).size = x.fr.length := numS_size _
  have st : (numS (trim x.fr)).size = (trim x.fr).length := numS_size _
  have et : (⟨((trim x.fr).map symB).toArray⟩ : ByteArray) = numS (trim x.fr) := rfl
  rw [et] at htr
  have he0 : (⟨#[]⟩ : ByteArray).toList = [] := by kernel_rfl
  have hbl : ∀ b : ByteArray, b.toList = b.data.toList := fun b => Lib.toList_data b
  have ht0 : ((numS (trim x.fr)).toList == []) = decide (trim x.fr = []) := by
    rcases hq : trim x.fr with _ | ⟨a, l⟩
    · rw [show numS [] = ⟨#[]⟩ from rfl, he0]
      rfl
    · have h1 : (numS (a :: l)).toList ≠ [] := by
        intro h
        have h3 : (numS (a :: l)).data.toList = [] := by
          rw [← hbl]
          exact h
        rw [numS_list] at h3
        simp at h3
      simp [h1]
  obtain ⟨A, hA⟩ : ∃ A, A = numS (syms x) := ⟨_, rfl⟩
  obtain ⟨W1, hW1⟩ : ∃ A, A = numS x.wh := ⟨_, rfl⟩
  obtain ⟨F1, hF1⟩ : ∃ A, A = numS x.fr := ⟨_, rfl⟩
  obtain ⟨T1, hT1⟩ : ∃ A, A = numS (trim x.fr) := ⟨_, rfl⟩
  obtain ⟨E, hE⟩ : ∃ E, E = decide (trim x.fr = []) := ⟨_, rfl⟩
  rw [← hA, ← hW1, ← hF1] at hs
  rw [← hA]
  rw [← hW1] at hvw
  rw [← hF1] at hvf sf htr
  rw [← hT1] at hvt st htr ht0
  obtain ⟨V1, hV1⟩ : ∃ V, V = val x.wh := ⟨_, rfl⟩
  obtain ⟨V2, hV2⟩ : ∃ V, V = val x.fr := ⟨_, rfl⟩
  obtain ⟨V3, hV3⟩ : ∃ V, V = val (trim x.fr) := ⟨_, rfl⟩
  rw [← hV1] at hvw
  rw [← hV2] at hvf
  rw [← hV3] at hvt
  have HV1 := Lib.hid hV1
  have HV2 := Lib.hid hV2
  have HV3 := Lib.hid hV3
  clear hV1 hV2 hV3
  rw [← hE] at ht0
  obtain ⟨R1, hR1⟩ : ∃ R, R = (opdI x op).1 := ⟨_, rfl⟩
  obtain ⟨R2, hR2⟩ : ∃ R, R = (opdI x op).2 := ⟨_, rfl⟩
  rw [← hR1, ← hR2]
  have HS := Lib.hid hs
  have HTR := Lib.hid htr
  have HVW := Lib.hid hvw
  have HVF := Lib.hid hvf
  have HVT := Lib.hid hvt
  have HE := Lib.hid hE
  have HR1 := Lib.hid hR1
  have HR2 := Lib.hid hR2
  have HSF := Lib.hid sf
  have HST := Lib.hid st
  have hops : op = 1 ∨ op = 2 ∨ op = 3 ∨ op = 4 ∨ op = 5 ∨ op = 6 := by omega
  clear hbl hs hd1 hd2 hw1 hw15 hw0 hf6 hdt htl htr hvw hvf hvt sf st et hA hW1 hF1 hT1 hE hR1 hR2 hm
  go_enter Tryz.func70, Tryz.ntmps70
  go_upto_region 2 with (go_at_call 67; refine (HS.out).mono ?_; rintro e w5 ⟨rfl, hb5⟩)
  obtain ⟨w6, hw6⟩ : ∃ w6, w6 = w5.alloc (.cells #[.bool false, .string W1, .string F1] 113) := ⟨_, rfl⟩
  have hb6 : Below w5.heap.size w5 w6 := by rw [hw6]; exact (Below.refl _ _).alloc (Nat.le_refl _) _
  have hg6 : w6.heap[w5.heap.size]? = some (.cells #[.bool false, .string W1, .string F1] 113 (0, 0)) := by rw [hw6]; exact heap_alloc_new w5 _
  obtain ⟨p0, p1, p2⟩ := num_cells hg6
  have HB6 := Lib.hid (hb5.trans (hb6.mono hb5.size))
  rw [← hw6]
  clear hw6 hb6 hg6 hb5
  go_upto_region 5 with (go_at_call 91; refine (HTR.out _).mono ?_; rintro e w7 ⟨rfl, rfl⟩)
  rcases hops with rfl | rfl | rfl | rfl | rfl | rfl
  · cases E
    · go_wp2
      go_ret2
      refine ⟨?_, HB6.out⟩
      have h1 := HE.out
      simp at h1
      rw [HR1.out, HR2.out]
      unfold opdI opd
      rw [if_pos rfl, if_neg (by simpa using h1)]
      rfl
    · go_wp2_with (go_at_call 92; refine (HVW.out _).mono ?_; rintro e w8 ⟨rfl, hb8⟩)
      go_ret2
      refine ⟨?_, HB6.out.trans (hb8.mono HB6.out.size)⟩
      have h1 := HE.out
      simp at h1
      rw [HR1.out, HR2.out, HV1.out]
      unfold opdI opd
      rw [if_pos rfl, if_pos h1]
      rfl
  · go_wp2_with (go_at_call 92; refine (HVW.out _).mono ?_; rintro e w8 ⟨rfl, hb8⟩)
    go_ret2
    refine ⟨?_, HB6.out.trans (hb8.mono HB6.out.size)⟩
    rw [HR1.out, HR2.out, HV1.out]
    rfl
  · go_wp2
    go_ret2
    refine ⟨?_, HB6.out⟩
    rw [HR1.out, HR2.out]
    have h1 := HSF.out
    show Ending.returned (.tuple #[.int .i64 (F1.size : Int), .int .i64 0]) = .returned (.tuple #[.int .i64 (x.fr.length : Int), .int .i64 0])
    rw [h1]
  · go_wp2
    go_ret2
    refine ⟨?_, HB6.out⟩
    rw [HR1.out, HR2.out]
    have h1 := HST.out
    show Ending.returned (.tuple #[.int .i64 (T1.size : Int), .int .i64 0]) = .returned (.tuple #[.int .i64 ((trim x.fr).length : Int), .int .i64 0])
    rw [h1]
  · go_wp2_with (go_at_call 92; refine (HVF.out _).mono ?_; rintro e w8 ⟨rfl, hb8⟩)
    go_ret2
    refine ⟨?_, HB6.out.trans (hb8.mono HB6.out.size)⟩
    rw [HR1.out, HR2.out, HV2.out]
    rfl
  · go_wp2_with (go_at_call 92; refine (HVT.out _).mono ?_; rintro e w8 ⟨rfl, hb8⟩)
    go_ret2
    refine ⟨?_, HB6.out.trans (hb8.mono HB6.out.size)⟩
    rw [HR1.out, HR2.out, HV3.out]
    rfl
end Go.Proofs.YtbkcmgjmhglghaaGreatDoor
namespace Go.Proofs.YtbkcmgjmhglghaaGreatDoor
open Go.RowKit

theorem anyN_list {α : Type} (l : List α) (d : α) (q : α → Bool) : anyN l.length (fun i => q (l.getD i d)) = l.any q := by
  unfold anyN
  rw [Bool.eq_iff_iff, List.any_eq_true, List.any_eq_true]
  constructor
  · rintro ⟨i, hi, h⟩
    have hi := List.mem_range.1 hi
    refine ⟨l.getD i d, ?_, h⟩
    rw [List.getD_eq_getElem?_getD, List.getElem?_eq_getElem hi]
    exact List.getElem_mem hi
  · rintro ⟨x, hx, h⟩
    obtain ⟨i, hi, rfl⟩ := List.getElem_of_mem hx
    exact ⟨i, List.mem_range.2 hi, by rw [List.getD_eq_getElem?_getD, List.getElem?_eq_getElem hi]; exact h⟩
set_option maxRecDepth 100000 in
theorem cin1_any (a b n : Int) (gn : Nat) (w : World) (hn : w.cell? ⟨gn, 0, none⟩ = some (.int .i64 n)) :
    Calls Tryz.prog 94 #[.agg #[.int .i64 a, .int .i64 b], .pointer (some ⟨gn, 0, none⟩)] w fun e w' => e = .returned (.bool (decide (a ≤ n) && decide (n ≤ b))) ∧ Below w.heap.size w w' := by
  have hb : Below w.heap.size w (w.alloc (.cells #[.int .i64 a, .int .i64 b] 48)) := (Below.refl _ _).alloc (Nat.le_refl _) _
  have hn1 := (hb.cell (p := ⟨gn, 0, none⟩) (World.block_lt_of_cell? w _ hn)).trans hn
  have HB := Lib.hid hb
  clear hb
  go_enter Tryz.func94, Tryz.ntmps94
  by_cases h1 : a ≤ n
  · go_wp2
    go_ret
    exact ⟨ret_bool (by simp [h1]), HB.out⟩
  · go_wp2
    go_ret
    exact ⟨ret_bool (by simp; omega), HB.out⟩
set_option maxRecDepth 100000 in
theorem cin_any (sv : Value) (sp : List Sp) (n : Int) (B : Nat) (w : World) (hv : IsSpans w B sv sp) (hB : B ≤ w.heap.size) (h4 : sp.length ≤ 4) :
    Calls Tryz.prog 71 #[sv, .int .i64 n] w fun e w' => e = .returned (.bool (inS sp n)) ∧ Below w.heap.size w w' := by
  obtain ⟨ao, cap, rfl, hc⟩ := hv
  obtain ⟨w1, hw1⟩ : ∃ w1, w1 = w.alloc (.cells #[.int .i64 n] 3) := ⟨_, rfl⟩
  have hb1 : Below w.heap.size w w1 := by rw [hw1]; exact (Below.refl _ _).alloc (Nat.le_refl _) _
  have hg1 : w1.cell? ⟨w.heap.size, 0, none⟩ = some (.int .i64 n) := by
    rw [hw1, Lib.cell_of_heap (heap_alloc_new w _)]
    rfl
  have hcf := containsFuncSpn_any 94 #[.pointer (some ⟨w.heap.size, 0, none⟩)] (fun _ _ => by kernel_rfl) ao sp.length cap B (fun i => .int .i64 (sp.getD i (0, 0)).1) (fun i => .int .i64 (sp.getD i (0, 0)).2) (fun i => decide ((sp.getD i (0, 0)).1 ≤ n) && decide (n ≤ (sp.getD i (0, 0)).2)) w1 (by omega) (Nat.le_trans hB hb1.size)
    (fun h0 => by
      obtain ⟨b, o, e, hb, hh⟩ := hc h0
      exact ⟨b, o, e, hb, fun i hi => by
        obtain ⟨h1, h2⟩ := hh i _ (List.getElem?_eq_getElem hi)
        have e1 : sp.getD i (0, 0) = sp[i] := by rw [List.getD_eq_getElem?_getD, List.getElem?_eq_getElem hi]; rfl
        rw [e1]
        exact ⟨(hb1.cell (p := ⟨b, o + i * 2, none⟩) (by show b < w.heap.size; omega)).trans h1, (hb1.cell (p := ⟨b, o + i * 2 + 1, none⟩) (by show b < w.heap.size; omega)).trans h2⟩⟩)
    (fun W i hW hi => (cin1_any _ _ n w.heap.size W ((hW.cell (p := ⟨w.heap.size, 0, none⟩) (World.block_lt_of_cell? w1 _ hg1)).trans hg1)).mono fun _ _ h => ⟨h.1, hW.trans (h.2.mono hW.size)⟩)
  have e := anyN_list sp (0, 0) (fun s => decide (s.1 ≤ n) && decide (n ≤ s.2))
  rw [e] at hcf
  have e2 : (sp.any fun s => decide (s.1 ≤ n) && decide (n ≤ s.2)) = inS sp n := rfl
  rw [e2] at hcf
  obtain ⟨R, hR⟩ : ∃ R, R = inS sp n := ⟨_, rfl⟩
  rw [← hR] at hcf ⊢
  obtain ⟨m, hm⟩ : ∃ m, m = sp.length := ⟨_, rfl⟩
  rw [← hm] at hcf ⊢
  have HCF := Lib.hid hcf
  have HB1 := Lib.hid hb1
  clear hc hb1 hg1 hcf e e2 hR hm h4
  go_enter Tryz.func71, Tryz.ntmps71
  go_upto_region 1 with fail
  rw [← hw1]
  clear hw1
  go_wp2_with (go_at_call 93; refine (HCF.out).mono ?_; rintro e w5 ⟨rfl, hb5⟩)
  go_ret
  exact ⟨rfl, HB1.out.trans (hb5.mono HB1.out.size)⟩
set_option maxRecDepth 100000 in
set_option maxHeartbeats 3200000 in
theorem chold_any (x : Num) (hx : x.OK) (op md : Int) (nt : Bool) (sv : Value) (sp : List Sp) (B : Nat) (w : World) (hv : IsSpans w B sv sp) (hB : B ≤ w.heap.size) (hr : relB ⟨op, md, nt, sp⟩ = true) (hm : Max w) :
    Calls Tryz.prog 49 #[.agg #[.int .i64 op, .int .i64 md, .bool nt, sv], .string (numS (syms x))] w fun e w' => e = .returned (.bool (relH ⟨op, md, nt, sp⟩ x)) ∧ Below w.heap.size w w' := by
  have hop := relB_op hr
  have hop4 := (relB_sp hr).2
  have hopd := fun W (hW : Below w.heap.size w W) => operand_any x hx op hop W (hm.below hW)
  have hcin := fun W (hW : Below w.heap.size w W) n => cin_any sv sp n B W (hv.below (hW.mono hB)) (Nat.le_trans hB hW.size) hop4
  have hmd : md = 0 ∨ 2 ≤ md ∧ md ≤ 100 := by
    rcases relB_md hr with h | h
    · exact .inl h
    · have := modsL_le h
      exact .inr ⟨this.1, this.2.1⟩
  have hrel : relH ⟨op, md, nt, sp⟩ x = match opd x op with
    | none => nt
    | some v => inS sp (if md = 0 then (v : Int) else (v : Int) % md) != nt := by
    unfold relH modV
    rcases opd x op with _ | v <;> rfl
  obtain ⟨ao, cap, rfl, _⟩ := hv
  obtain ⟨m, hms⟩ : ∃ m, m = sp.length := ⟨_, rfl⟩
  rw [← hms] at hcin ⊢
  obtain ⟨A, hA⟩ : ∃ A, A = numS (syms x) := ⟨_, rfl⟩
  rw [← hA] at hopd ⊢
  obtain ⟨R, hR⟩ : ∃ R, R = relH ⟨op, md, nt, sp⟩ x := ⟨_, rfl⟩
  rw [← hR] at hrel ⊢
  obtain ⟨w1, hw1⟩ : ∃ w1, w1 = w.alloc (.cells #[.int .i64 op, .int .i64 md, .bool nt, .slice ao m cap] 51) := ⟨_, rfl⟩
  have hb1 : Below w.heap.size w w1 := by rw [hw1]; exact (Below.refl _ _).alloc (Nat.le_refl _) _
  have hg1 : w1.heap[w.heap.size]? = some (.cells #[.int .i64 op, .int .i64 md, .bool nt, .slice ao m cap] 51 (0, 0)) := by rw [hw1]; exact heap_alloc_new w _
  obtain ⟨s0, s1, s2, s3⟩ := rel_cells hg1
  have HOPD := Lib.hid hopd
  have HCIN := Lib.hid hcin
  have HREL := Lib.hid hrel
  have HB1 := Lib.hid hb1
  have HG1 := Lib.hid hg1
  clear hopd hcin hrel hb1 hg1 hr hop hop4 hms hA hR hx hm
  go_enter Tryz.func49, Tryz.ntmps49
  go_upto_region 1 with fail
  rw [← hw1]
  clear hw1
  have HX := Lib.hid (show opdI x op = opdI x op from rfl)
  rcases hq : opd x op with _ | v
  · have e1 : opdI x op = (0, 8) := by unfold opdI; rw [hq]
    have hr2 := HREL.out
    rw [hq] at hr2
    simp only at hr2
    have ho := fun W hW => HOPD.out W hW
    simp only [e1] at ho
    have HO := Lib.hid ho
    clear ho e1 hq HREL HOPD
    go_wp2_with (go_at_call 70; refine (HO.out _ HB1.out).mono ?_; rintro e w5 ⟨rfl, hb5⟩; have hs5 := (hb5.block _ (Array.getElem?_eq_some_iff.1 HG1.out).1).trans HG1.out; obtain ⟨d0, d1, d2, d3⟩ := rel_cells hs5; have HB5 := Lib.hid hb5; clear hb5 hs5)
    go_ret
    exact ⟨ret_bool hr2.symm, HB1.out.trans (HB5.out.mono HB1.out.size)⟩
  · have e1 : opdI x op = ((v : Int), 0) := by unfold opdI; rw [hq]
    have hr2 := HREL.out
    rw [hq] at hr2
    simp only at hr2
    have ho := fun W hW => HOPD.out W hW
    simp only [e1] at ho
    have HO := Lib.hid ho
    have HR2 := Lib.hid hr2
    clear ho e1 hq HREL HOPD hr2
    by_cases h0 : md = 0
    · subst h0
      obtain ⟨Q, hQ⟩ : ∃ Q, Q = inS sp (v : Int) := ⟨_, rfl⟩
      have HQ := Lib.hid hQ
      clear hQ
      go_upto_region 6 with (go_at_call 70; refine (HO.out _ HB1.out).mono ?_; rintro e w5 ⟨rfl, hb5⟩; have hs5 := (hb5.block _ (Array.getElem?_eq_some_iff.1 HG1.out).1).trans HG1.out; obtain ⟨d0, d1, d2, d3⟩ := rel_cells hs5; have HB5 := Lib.hid (HB1.out.trans (hb5.mono HB1.out.size)); clear hb5 hs5)
      go_region_held3 (fun X => X.cell? ⟨w.heap.size, 2, none⟩ = some (.bool nt) ∧ X.cell? ⟨w.heap.size, 3, none⟩ = some (.slice ao m cap) ∧ Below w.heap.size w X) (first | assumption | exact ⟨d2, d3, HB5.out.drew⟩)
        (first
          | (go_at_call 71; refine (HCIN.out _ HB5.out.drew ((v : Int))).mono ?_; rw [← HQ.out]; rintro e w8 ⟨rfl, hb8⟩; have hS8 := c2_step (by assumption) hb8))
      go_wp2
      go_ret
      exact ⟨ret_bool (by rw [HR2.out, if_pos trivial, ← HQ.out]; cases Q <;> cases nt <;> rfl), hS8.2.2⟩
    · have h1 : (md == 0) = false := by simp [h0]
      obtain ⟨Q, hQ⟩ : ∃ Q, Q = inS sp ((v : Int) % md) := ⟨_, rfl⟩
      have HQ := Lib.hid hQ
      clear hQ
      go_upto_region 6 with (go_at_call 70; refine (HO.out _ HB1.out).mono ?_; rintro e w5 ⟨rfl, hb5⟩; have hs5 := (hb5.block _ (Array.getElem?_eq_some_iff.1 HG1.out).1).trans HG1.out; obtain ⟨d0, d1, d2, d3⟩ := rel_cells hs5; have HB5 := Lib.hid (HB1.out.trans (hb5.mono HB1.out.size)); clear hb5 hs5)
      go_region_held3 (fun X => X.cell? ⟨w.heap.size, 2, none⟩ = some (.bool nt) ∧ X.cell? ⟨w.heap.size, 3, none⟩ = some (.slice ao m cap) ∧ Below w.heap.size w X) (first | assumption | exact ⟨d2, d3, HB5.out.drew⟩)
        (first
          | (go_at_call 71; refine (HCIN.out _ HB5.out.drew ((v : Int) % md)).mono ?_; rw [← HQ.out]; rintro e w8 ⟨rfl, hb8⟩; have hS8 := c2_step (by assumption) hb8))
      go_wp2
      go_ret
      exact ⟨ret_bool (by rw [HR2.out, if_neg h0, ← HQ.out]; cases Q <;> cases nt <;> rfl), hS8.2.2⟩
set_option maxRecDepth 100000 in
theorem cH11_any (x : Num) (hx : x.OK) (r : Rel) (sv : Value) (gs B : Nat) (w : World) (hgs : w.cell? ⟨gs, 0, none⟩ = some (.string (numS (syms x)))) (hv : IsSpans w B sv r.sp) (hB : B ≤ w.heap.size) (hr : relB r = true) (hm : Max w) :
    Calls Tryz.prog 48 #[.agg #[.int .i64 r.op, .int .i64 r.md, .bool r.nt, sv], .pointer (some ⟨gs, 0, none⟩)] w fun e w' => e = .returned (.bool (!relH r x)) ∧ Below w.heap.size w w' := by
  obtain ⟨op, md, nt, sp⟩ := r
  obtain ⟨w1, hw1⟩ : ∃ w1, w1 = w.alloc (.cells #[.int .i64 op, .int .i64 md, .bool nt, sv] 51) := ⟨_, rfl⟩
  have hb1 : Below w.heap.size w w1 := by rw [hw1]; exact (Below.refl _ _).alloc (Nat.le_refl _) _
  have hg1 : w1.heap[w.heap.size]? = some (.cells #[.int .i64 op, .int .i64 md, .bool nt, sv] 51 (0, 0)) := by rw [hw1]; exact heap_alloc_new w _
  obtain ⟨s0, s1, s2, s3⟩ := rel_cells hg1
  have x1 := (hb1.cell (p := ⟨gs, 0, none⟩) (World.block_lt_of_cell? w _ hgs)).trans hgs
  have hh := chold_any x hx op md nt sv sp B w1 (hv.below (hb1.mono hB)) (Nat.le_trans hB hb1.size) hr (hm.below hb1)
  obtain ⟨A, hA⟩ : ∃ A, A = numS (syms x) := ⟨_, rfl⟩
  rw [← hA] at hh x1
  obtain ⟨R, hR⟩ : ∃ R, R = relH ⟨op, md, nt, sp⟩ x := ⟨_, rfl⟩
  rw [← hR] at hh
  rw [← hR]
  obtain ⟨ao, cap, rfl, _⟩ := hv
  obtain ⟨m, hms⟩ : ∃ m, m = sp.length := ⟨_, rfl⟩
  rw [← hms] at hh s3 hw1
  show Calls Tryz.prog 48 #[.agg #[.int .i64 op, .int .i64 md, .bool nt, .slice ao sp.length cap], .pointer (some ⟨gs, 0, none⟩)] w _
  rw [← hms]
  have HH := Lib.hid hh
  have HB1 := Lib.hid hb1
  clear hh hb1 hg1 hgs hr hm hA hR hms hx
  go_enter Tryz.func48, Tryz.ntmps48
  go_upto_region 1 with fail
  rw [← hw1]
  clear hw1
  go_wp2_with (go_at_call 49; refine (HH.out).mono ?_; rintro e w5 ⟨rfl, hb5⟩)
  go_ret
  exact ⟨rfl, HB1.out.trans (hb5.mono HB1.out.size)⟩
set_option maxRecDepth 100000 in
theorem cH1_any (x : Num) (hx : x.OK) (l : List Rel) (v : Value) (gs B : Nat) (w : World) (hgs : w.cell? ⟨gs, 0, none⟩ = some (.string (numS (syms x)))) (hv : IsRels w B v l) (hB : B ≤ w.heap.size) (hl : ∀ r ∈ l, relB r = true) (hl6 : l.length ≤ 6) (hm : Max w) :
    Calls Tryz.prog 46 #[v, .pointer (some ⟨gs, 0, none⟩)] w fun e w' => e = .returned (.bool (l.all fun r => relH r x)) ∧ Below w.heap.size w w' := by
  obtain ⟨ao2, cap2, svs, rfl, hsv, hq⟩ := rels_fun hv
  have hcf := containsFuncRel_any 48 #[.pointer (some ⟨gs, 0, none⟩)] (fun _ _ => by kernel_rfl) ao2 l.length cap2 B (fun j => .int .i64 (l.getD j ⟨0, 0, false, []⟩).op) (fun j => .int .i64 (l.getD j ⟨0, 0, false, []⟩).md) (fun j => .bool (l.getD j ⟨0, 0, false, []⟩).nt) svs (fun j => !relH (l.getD j ⟨0, 0, false, []⟩) x) w (by omega) hB hq
    (fun W j hW hj => by
      have hr : l[j]? = some l[j] := List.getElem?_eq_getElem hj
      have e : l.getD j ⟨0, 0, false, []⟩ = l[j] := by rw [List.getD_eq_getElem?_getD, hr]; rfl
      dsimp only
      rw [e]
      exact (cH11_any x hx l[j] (svs j) gs B W ((hW.cell (p := ⟨gs, 0, none⟩) (World.block_lt_of_cell? w _ hgs)).trans hgs) ((hsv j _ hr).below (hW.mono hB)) (Nat.le_trans hB hW.size) (hl _ (List.getElem_mem hj)) (hm.below hW)).mono fun _ _ h => ⟨h.1, hW.trans (h.2.mono hW.size)⟩)
  have e := anyN_list l ⟨0, 0, false, []⟩ (fun r => !relH r x)
  rw [e] at hcf
  have e2 : (l.all fun r => relH r x) = !(l.any fun r => !relH r x) := by
    rw [List.not_any_eq_all_not]
    simp
  rw [e2]
  obtain ⟨R, hR⟩ : ∃ R, R = l.any fun r => !relH r x := ⟨_, rfl⟩
  rw [← hR] at hcf ⊢
  obtain ⟨m, hms⟩ : ∃ m, m = l.length := ⟨_, rfl⟩
  rw [← hms] at hcf ⊢
  have HCF := Lib.hid hcf
  clear hcf hq hsv hl hv hgs hm hx e e2 hR hms hl6
  go_enter Tryz.func46, Tryz.ntmps46
  go_wp2_with (go_at_call 47; refine (HCF.out).mono ?_; rintro e w5 ⟨rfl, hb5⟩)
  go_ret
  exact ⟨rfl, hb5⟩
set_option maxRecDepth 100000 in
set_option maxHeartbeats 1600000 in
theorem cHolds_any (x : Num) (hx : x.OK) (v : Value) (c : Cnd) (B : Nat) (w : World) (hv : IsCond w B v c) (hB : B ≤ w.heap.size) (hc : condB c = true) (hm : Max w) :
    Calls Tryz.prog 15 #[v, .string (numS (syms x))] w fun e w' => e = .returned (.tuple #[.bool (condH c x), .int .i64 0]) ∧ Below w.heap.size w w' := by
  obtain ⟨hl0, hl6, ht, hl⟩ := condB_parts hc
  obtain ⟨w1, hw1⟩ : ∃ w1, w1 = w.alloc (.cells #[.string (numS (syms x))] 9) := ⟨_, rfl⟩
  have hb1 : Below w.heap.size w w1 := by rw [hw1]; exact (Below.refl _ _).alloc (Nat.le_refl _) _
  have hg1 : w1.cell? ⟨w.heap.size, 0, none⟩ = some (.string (numS (syms x))) := by
    rw [hw1, Lib.cell_of_heap (heap_alloc_new w _)]
    rfl
  have hval := cvalid_any v c B w1 (hv.below (hb1.mono hB)) (Nat.le_trans hB hb1.size) hc
  have hnv := fun W (hW : Below w.heap.size w W) => nvalid_any x hx W (hm.below hW)
  have hv' := hv
  obtain ⟨ao, cap, rfl, hq⟩ := hv
  have key : ∀ i, ∃ u, ∀ l, c[i]? = some l → ∀ b o, ao = some ⟨b, o, none⟩ → w.cell? ⟨b, o + i, none⟩ = some u ∧ IsRels w B u l := fun i => by
    rcases hc' : c[i]? with _ | l
    · exact ⟨.bool false, fun l h => by cases h⟩
    · obtain ⟨b, o, e, hb, hh⟩ := hq hl0
      obtain ⟨u, h1, h2⟩ := hh i l hc'
      refine ⟨u, fun l' h b' o' e' => ?_⟩
      cases h
      rw [e] at e'
      injection e' with e'
      injection e' with e1 e2 _
      subst e1 e2
      exact ⟨h1, h2⟩
  have hcf := containsFuncLst_any 46 #[.pointer (some ⟨w.heap.size, 0, none⟩)] (fun _ _ => by kernel_rfl) ao c.length cap B (fun i => Classical.choose (key i)) (fun i => (c.getD i []).all fun r => relH r x)
  have hcf2 := fun W (hW : Below w1.heap.size w1 W) => hcf W (by omega) (Nat.le_trans hB (Nat.le_trans hb1.size hW.size))
    (fun h0 => by
      obtain ⟨b, o, e, hb, hh⟩ := hq h0
      exact ⟨b, o, e, hb, fun i hi => ((hb1.trans (hW.mono hb1.size)).cell (p := ⟨b, o + i, none⟩) (by show b < w.heap.size; omega)).trans (Classical.choose_spec (key i) _ (List.getElem?_eq_getElem hi) b o e).1⟩)
    (fun W2 i hW2 hi => by
      have hr : c[i]? = some c[i] := List.getElem?_eq_getElem hi
      have e : c.getD i [] = c[i] := by rw [List.getD_eq_getElem?_getD, hr]; rfl
      dsimp only
      rw [e]
      obtain ⟨b, o, e', hb, hh⟩ := hq hl0
      have hri := (Classical.choose_spec (key i) _ hr b o e').2
      have hbW : Below w.heap.size w W2 := hb1.trans ((hW.trans (hW2.mono hW.size)).mono hb1.size)
      have h12 := hW.trans (hW2.mono hW.size)
      exact (cH1_any x hx c[i] _ w.heap.size B W2 ((h12.cell (p := ⟨w.heap.size, 0, none⟩) (World.block_lt_of_cell? w1 _ hg1)).trans hg1) (hri.below (hbW.mono hB)) (Nat.le_trans hB hbW.size) (fun r hr' => condB_rel hc (List.mem_flatten.2 ⟨_, List.getElem_mem hi, hr'⟩)) (hl i _ hr).2 (hm.below hbW)).mono fun _ _ h => ⟨h.1, hW2.trans (h.2.mono hW2.size)⟩)
  have e := anyN_list c [] (fun l => l.all fun r => relH r x)
  rw [e] at hcf2
  have e2 : (c.any fun l => l.all fun r => relH r x) = condH c x := rfl
  rw [e2] at hcf2
  obtain ⟨R, hR⟩ : ∃ R, R = condH c x := ⟨_, rfl⟩
  rw [← hR] at hcf2 ⊢
  obtain ⟨n, hn⟩ : ∃ n, n = c.length := ⟨_, rfl⟩
  rw [← hn] at hcf2 hval ⊢
  obtain ⟨A, hA⟩ : ∃ A, A = numS (syms x) := ⟨_, rfl⟩
  rw [← hA] at hnv hw1 hg1 ⊢
  have HCF := Lib.hid hcf2
  have HVAL := Lib.hid hval
  have HNV := Lib.hid hnv
  have HB1 := Lib.hid hb1
  have HG1 := Lib.hid hg1
  clear hcf hcf2 hval hnv hb1 hg1 hl0 hl6 ht hl hq hv' hm hx e e2 hR hn hA key hc
  go_enter Tryz.func15, Tryz.ntmps15
  go_upto_region 1 with fail
  rw [← hw1]
  clear hw1
  go_wp2_with (first
    | (go_at_call 41; refine (HVAL.out).mono ?_; rintro e w5 ⟨rfl, hb5⟩; have x5 := (hb5.cell (p := ⟨w.heap.size, 0, none⟩) (World.block_lt_of_cell? w1 _ HG1.out)).trans HG1.out; have HB5 := Lib.hid hb5; clear hb5)
    | (go_at_call 44; refine (HNV.out _ (HB1.out.trans (HB5.out.mono HB1.out.size))).mono ?_; rintro e w6 ⟨rfl, hb6⟩; have HB6 := Lib.hid (HB5.out.trans (hb6.mono HB5.out.size)); clear hb6)
    | (go_at_call 45; refine (HCF.out _ HB6.out).mono ?_; rintro e w7 ⟨rfl, hb7⟩))
  go_ret2
  exact ⟨rfl, HB1.out.trans ((HB6.out.trans (hb7.mono HB6.out.size)).mono HB1.out.size)⟩
end Go.Proofs.YtbkcmgjmhglghaaGreatDoor
