/-
  Plain: classes of disjoint rules.
  calquetop.WholeClasses: the walk.
  The rules that come in as an argument, opened: type by type, with the form's reach for each slice.
-/
import Derived.Test.YtbkcmgjmhglghaaGreatDoorWl2
import Derived.Test.YtbkcmgjmhglghaaGreatDoorWi5
import Derived.Test.YtbkcmgjmhglghaaGreatDoorVn8
import Derived.Test.YtbkcmgjmhglghaaGreatDoorWg2
import Derived.Test.YtbkcmgjmhglghaaGreatDoorVn1
import Derived.Deep.Slices
import Derived.ChangeSame
import Derived.SizedLaws
import Derived.Lib.SmallJoins
namespace Go.Proofs.YtbkcmgjmhglghaaGreatDoor
open Go.RowKit

theorem clsOf_some {l : List Rul} {x : Num} {r : Rul} (h : l.find? (fun r => condH r.cond x) = some r) : clsOf l x = r.cls := by unfold clsOf; rw [h]
theorem clsOf_none {l : List Rul} {x : Num} (h : l.find? (fun r => condH r.cond x) = none) : clsOf l x = other := by unfold clsOf; rw [h]
theorem clsOf_iff {l : List Rul} {x : Num} (hx : x.OK) (hl : RulesOK l) (ha : ∀ a b : Nat, a < b → b < l.length → Apart l a b) {i : Nat} {r : Rul} (hr : l[i]? = some r) : clsOf l x = r.cls ↔ condH r.cond x = true := by
  have key : ∀ (a b : Nat) (ra rb : Rul), l[a]? = some ra → l[b]? = some rb → condH ra.cond x = true → condH rb.cond x = true → a = b := fun a b ra rb h1 h2 c1 c2 => by
    rcases Nat.lt_trichotomy a b with h | h | h
    · exact absurd ⟨c1, c2⟩ (ha a b h (List.getElem?_eq_some_iff.1 h2).1 ra rb h1 h2 x hx)
    · exact h
    · exact absurd ⟨c2, c1⟩ (ha b a h (List.getElem?_eq_some_iff.1 h1).1 rb ra h2 h1 x hx)
  constructor
  · intro h
    rcases hf : l.find? (fun r => condH r.cond x) with _ | r'
    · rw [clsOf_none hf] at h
      exact absurd h.symm (not_other (hl.1 r (List.mem_of_getElem? hr)).1)
    · rw [clsOf_some hf] at h
      have hc := List.find?_some hf
      obtain ⟨k, hk, hke⟩ := List.getElem_of_mem (List.mem_of_find?_eq_some hf)
      have hk' : l[k]? = some r' := by rw [List.getElem?_eq_getElem hk, hke]
      rcases Nat.lt_trichotomy k i with h1 | h1 | h1
      · exact absurd h (hl.2 i k r r' h1 hr hk')
      · subst h1
        rw [hr] at hk'
        cases hk'
        simpa using hc
      · exact absurd h.symm (hl.2 k i r' r h1 hk' hr)
  · intro hc
    rcases hf : l.find? (fun r => condH r.cond x) with _ | r'
    · have := List.find?_eq_none.1 hf r (List.mem_of_getElem? hr)
      simp [hc] at this
    · have hc' := List.find?_some hf
      obtain ⟨k, hk, hke⟩ := List.getElem_of_mem (List.mem_of_find?_eq_some hf)
      have hk' : l[k]? = some r' := by rw [List.getElem?_eq_getElem hk, hke]
      have := key k i r' r hk' hr (by simpa using hc') hc
      subst this
      rw [hr] at hk'
      cases hk'
      exact clsOf_some hf
theorem clsOf_other {l : List Rul} {x : Num} (hl : RulesOK l) : clsOf l x ≠ other ↔ (l.any fun r => condH r.cond x) = true := by
  rcases hf : l.find? (fun r => condH r.cond x) with _ | r'
  · rw [clsOf_none hf]
    simp only [ne_eq, not_true, false_iff, Bool.not_eq_true]
    rw [Bool.eq_false_iff]
    intro h
    obtain ⟨r, hr, hc⟩ := List.any_eq_true.1 h
    have := List.find?_eq_none.1 hf r hr
    simp [hc] at this
  · rw [clsOf_some hf]
    have hm := List.mem_of_find?_eq_some hf
    have hc := List.find?_some hf
    exact ⟨fun _ => List.any_eq_true.2 ⟨r', hm, by simpa using hc⟩, fun _ => not_other (hl.1 r' hm).1⟩
end Go.Proofs.YtbkcmgjmhglghaaGreatDoor
namespace Go.Proofs.YtbkcmgjmhglghaaGreatDoor
open Go.RowKit

theorem one_num : numS (syms ⟨[1], []⟩) = ⟨#[49]⟩ := by rfl
theorem one_ok : Num.OK ⟨[1], []⟩ := by
  refine ⟨?_, ?_, ?_, ?_, ?_, ?_⟩
  · intro d hd
    simp at hd
    omega
  · intro d hd
    simp at hd
  · decide
  · decide
  · intro h
    simp at h
  · decide
theorem c4b_step {W w8 w0 : World} {p1 p2 p3 p4 : Addr} {v1 v2 v3 v4 : Value} (h : W.cell? p1 = some v1 ∧ W.cell? p2 = some v2 ∧ W.cell? p3 = some v3 ∧ W.cell? p4 = some v4 ∧ Below w0.heap.size w0 W) (hb : Below W.heap.size W w8) : w8.cell? p1 = some v1 ∧ w8.cell? p2 = some v2 ∧ w8.cell? p3 = some v3 ∧ w8.cell? p4 = some v4 ∧ Below w0.heap.size w0 w8 := by
  obtain ⟨h1, h2, h3, h4, h9⟩ := h
  have c := fun p u (h : W.cell? p = some u) => (hb.cell (p := p) (World.block_lt_of_cell? W _ h)).trans h
  exact ⟨c _ _ h1, c _ _ h2, c _ _ h3, c _ _ h4, h9.trans (hb.mono h9.size)⟩
theorem syms_len {x : Num} (h : x.OK) : (syms x).length ≤ 1000 := by
  obtain ⟨_, _, _, h1, _, h2⟩ := h
  unfold syms
  split
  · omega
  · simp
    omega
set_option maxRecDepth 100000 in
set_option maxHeartbeats 12800000 in
theorem whole_any (ao : Option Addr) (cap : Nat) (l : List Rul) (s : ByteArray) (B : Nat) (w : World) (hv : IsRules w B (.slice ao l.length cap) l) (hB : B ≤ w.heap.size) (ht : ∀ r ∈ l, Tame r.cond) (hll : l.length ≤ 140737488351232) (hcap : l.length ≤ cap) (hs : s.size ≤ 140737488351232) (hT : Tab w) (hm : Max w) :
    Calls Tryz.prog 3 #[.slice ao l.length cap, .string s] w fun e w' => e = .returned (.bool true) ∧ Below w.heap.size w w' := by
  have hc1 := class_any ⟨[1], []⟩ one_ok none 0 [] 0 w ⟨none, 0, rfl, fun h => by simp at h⟩ (Nat.zero_le _) ⟨fun r hr => by simp at hr, fun i k ri rk _ h => by simp at h⟩ (by simp) (by simp) hm
  rw [one_num] at hc1
  have hc1' : Calls Tryz.prog 4 #[.slice none 0 0, .string ⟨#[49]⟩] w fun e w' => e = .returned (.tuple #[.string ⟨#[111, 116, 104, 101, 114]⟩, .int .i64 0]) ∧ Below w.heap.size w w' := hc1
  have hfew := fun W (hW : Below w.heap.size w W) => few14_any (.slice ao l.length cap) l B W (hv.below (hW.mono hB)) (Nat.le_trans hB hW.size) ht hll
  have hval := fun W (hW : Below w.heap.size w W) => valid14_any (.slice ao l.length cap) l B W (hv.below (hW.mono hB)) (Nat.le_trans hB hW.size) ht hll
  have huns := fun W => uns10_any s W hs
  have hv7 := fun W => valid7_any s W hs
  have hcls := fun (x : Num) (hx : x.OK) (hsx : s = numS (syms x)) (hl : RulesOK l) (h10 : l.length ≤ 10) W (hW : Below w.heap.size w W) => class_any x hx ao cap l B W (hv.below (hW.mono hB)) (Nat.le_trans hB hW.size) hl h10 hcap (hm.below hW)
  have hdis := fun (hl : RulesOK l) (h10 : l.length ≤ 10) W (hW : Below w.heap.size w W) => disjoint_any (.slice ao l.length cap) l B W (hv.below (hW.mono hB)) (Nat.le_trans hB hW.size) (fun r hr => (hl.1 r hr).2) h10 (hT.below hW hT.lt)
  obtain ⟨ao', cap', cvs, hve, hcv, hq⟩ := rulesAt hv
  injection hve with e1 e2 e3
  subst e1 e3
  obtain ⟨n, hn⟩ : ∃ n, n = l.length := ⟨_, rfl⟩
  rw [← hn] at hq hll hcap hfew hval hdis hcls
  rw [← hn]
  obtain ⟨j0, hj, hz0, hz1, hz2⟩ := info_parts Tryz.infoCondT
  have he0 : (⟨#[111, 116, 104, 101, 114]⟩ : ByteArray).toList = [111, 116, 104, 101, 114] := by kernel_rfl
  have HC1 := Lib.hid hc1'
  have HFEW := Lib.hid hfew
  have HVAL := Lib.hid hval
  have HUNS := Lib.hid huns
  have HV7 := Lib.hid hv7
  have HCLS := Lib.hid hcls
  have HDIS := Lib.hid hdis
  have HCV := Lib.hid hcv
  have HQ := Lib.hid hq
  have HN := Lib.hid hn
  have HT := Lib.hid ht
  have HB := Lib.hid hB
  have HTAB := Lib.hid hT
  have HMAX := Lib.hid hm
  have HE0 := Lib.hid he0
  clear hc1 hc1' hfew hval huns hv7 hcls hdis hcv hq hn ht hB hT hm hv e2 he0
  go_enter Tryz.func3, Tryz.ntmps3
  go_upto_region 4 with (go_at_call 4; refine (HC1.out).mono ?_; rintro e w1 ⟨rfl, hb1⟩; have HB1 := Lib.hid hb1; clear hb1)
  go_cut [46] (fun bv wx => ∃ bad : Bool, bv = .bool bad ∧ Below w.heap.size w wx ∧ (bad = false → n ≤ 10 ∧ RulesOK l ∧ s.data.toList.head? ≠ some 45 ∧ vB s = true))
  case first =>
    go_wp2_with (first
      | (go_at_call 5; refine (HFEW.out _ HB1.out).mono ?_; rintro e w2 ⟨b1, rfl, hp1, hb2⟩; have HP1 := Lib.hid hp1; have HB2 := Lib.hid (HB1.out.trans (hb2.mono HB1.out.size)); clear hb2 hp1; cases b1)
      | (go_at_call 6; refine (HVAL.out _ HB2.out).mono ?_; rintro e w3 ⟨b2, rfl, hp2, hb3⟩; have HP2 := Lib.hid hp2; have HB3 := Lib.hid (HB2.out.trans (hb3.mono HB2.out.size)); clear hb3 hp2; cases b2)
      | (go_at_call 7; refine (HUNS.out _).mono ?_; rintro e w4 ⟨b3, rfl, hb4, hp3⟩; have HP3 := Lib.hid hp3; have HB4 := Lib.hid (HB3.out.trans (hb4.mono HB3.out.size)); clear hb4 hp3; cases b3))
    all_goals go_meet
    · exact ⟨true, rfl, HB2.out, fun h => by simp at h⟩
    · exact ⟨true, rfl, HB3.out, fun h => by simp at h⟩
    · exact ⟨true, rfl, HB4.out, fun h => by simp at h⟩
    · exact ⟨false, rfl, HB4.out, fun _ => ⟨(HP1.out trivial).1, rules_ok (HP2.out trivial) (HP1.out trivial).2, (HP3.out trivial).1, (HP3.out trivial).2⟩⟩
  case rest =>
    obtain ⟨bad, rfl, hbc, hgood⟩ := hcut
    have HBC := Lib.hid hbc
    cases bad
    case true =>
      clear hgood hbc
      go_wp2
      go_ret
      exact ⟨rfl, HBC.out⟩
    case false =>
      obtain ⟨h10, hok, hnm, hvb⟩ := hgood rfl
      obtain ⟨x, hx, hsx⟩ := vB_form hvb
      have hcl := fun W (hW : Below w.heap.size w W) => HCLS.out x hx hsx hok h10 W hW
      rw [← hsx] at hcl
      have hdis := fun W (hW : Below w.heap.size w W) => HDIS.out hok h10 W hW
      have hwt := fun (i : Nat) (r : Rul) (hr : l[i]? = some r) W (hW : Below w.heap.size w W) => weight10_any (cvs i) r.cond B W ((HCV.out i r hr).below (hW.mono HB.out)) (Nat.le_trans HB.out hW.size) (hok.1 r (List.mem_of_getElem? hr)).2
      have HCL := Lib.hid hcl
      have HDI := Lib.hid hdis
      have HWT := Lib.hid hwt
      have HOK := Lib.hid hok
      have HNM := Lib.hid hnm
      have HVB := Lib.hid hvb
      have HX := Lib.hid hx
      have HSX := Lib.hid hsx
      have hcv1 : ∀ (i : Nat) (r : Rul), l[i]? = some r → ∃ ca m cp, cvs i = .slice ca m cp := fun i r hr => by
        obtain ⟨ca, cp, h, _⟩ := HCV.out i r hr
        exact ⟨ca, _, cp, h⟩
      have HCV1 := Lib.hid hcv1
      clear hcl hdis hwt hok hnm hvb hx hsx hgood HCLS HDIS HFEW HVAL HUNS HC1 hcv1 hbc
      go_wp2
      go_loopw [7, 49] (fun cv iv wr => ∃ i : Nat, i ≤ n ∧ iv = .int .i64 i ∧ wr.ownsRow w.heap.size 32 1 cv i ((List.range i).map cvs) ∧ Below w.heap.size w wr ∧ ∀ k r, k < i → l[k]? = some r → wfold r.cond.flatten 1 ≤ 200) (fun _ iv _ => n - (intOf iv).toNat)
      case atStart => exact ⟨0, Nat.zero_le _, rfl, World.ownsRow_nil _ _ _ _, HBC.out, fun k r h => by omega⟩
      case round =>
        obtain ⟨i, hi, rfl, hown, hb, hwt⟩ := hrel
        have i0 : (0 : Int) ≤ (i : Int) := by omega
        obtain ⟨aa, ac, rfl⟩ := slice_form hown
        have HOWN := Lib.hid hown
        have HBW := Lib.hid hb
        have HWTS := Lib.hid hwt
        clear hown hwt
        by_cases hlt : i < n
        · have i1 : (i : Int) < (n : Int) := by omega
          obtain ⟨r, hr⟩ : ∃ r, l[i]? = some r := ⟨_, List.getElem?_eq_getElem (by have := HN.out; omega)⟩
          obtain ⟨b, o, rfl, hbB, hqq⟩ := HQ.out (by omega)
          have hcell : ∀ W, Below w.heap.size w W → W.cell? ⟨b, o + i * 2 + 1, none⟩ = some (cvs i) := fun W hW => (hW.cell (p := ⟨b, o + i * 2 + 1, none⟩) (by show b < w.heap.size; have := HB.out; omega)).trans (hqq i r hr).2
          have hwti := fun W hW => HWT.out i r hr W hW
          obtain ⟨ca, m, cp, hcve⟩ := HCV1.out i r hr
          have hrs := range_snoc cvs i
          rw [hcve] at hcell hwti hrs
          have a1 := hcell wr hb
          have HR := Lib.hid hr
          have HCELL := Lib.hid hcell
          have HWTI := Lib.hid (hwti wr hb)
          have HRS := Lib.hid hrs
          clear hr hqq hcell hwti hcve hrs hb hbB
          go_upto_region 11 with (go_at_call 8; refine (HWTI.out).mono ?_; rintro e w5 ⟨nw, er, rfl, hw5, her, hb5⟩; have HW5 := Lib.hid hw5; have HB5 := Lib.hid (HBW.out.trans (hb5.mono HBW.out.size)); have HB55 := Lib.hid hb5; clear hw5 hb5)
          obtain rfl | rfl : er = 0 ∨ er = 1 := by omega
          · by_cases h200 : 200 < nw
            · have h200' : (200 : Int) < (nw : Int) := by omega
              go_wp2
              go_ret
              exact ⟨rfl, HB5.out⟩
            · have h200' : ¬ (200 : Int) < (nw : Int) := by omega
              have c5 := HCELL.out w5 HB5.out
              have hown2 := own_grow HOWN.out (grown_below HB55.out) (by cases (Value.slice aa i ac).ownBlock <;> simp)
              have hown3 := hown2.alloc (.cells #[.slice ca m cp] 32)
              have hbw3 := HB5.out.alloc HB5.out.size (.cells #[.slice ca m cp] 32)
              have HSZ := Lib.hid hbw3.size
              have HBW3 := Lib.hid hbw3
              clear hown2 hbw3
              go_wp2_with (at_builtin; refine wpList_append_own _ rfl _ _ 28 rfl w.heap.size 32 j0 (.slice none 0 0) 1 24 Tryz.underlying28 hj hz0 hz1 hz2 rfl (by decide) _ _ _ rfl hown3 ⟨w5.heap.size, 0, none⟩ 1 1 [.slice ca m cp] rfl rfl (cells_new _ _ _) (by intro u hu; simp at hu; subst hu; rfl) (by unfold maxLen; omega) (by omega) HSZ.out ?_; intro v9 w9 hE9 hg9 _)
              go_roundw
              case rel =>
                refine ⟨i + 1, by omega, by go_num, by rw [HRS.out]; exact hE9, HBW3.out.trans (grown_belowR hg9 hown3 HSZ.out), fun k r' hk hr' => ?_⟩
                by_cases hki : k < i
                · exact HWTS.out k r' hki hr'
                · have : k = i := by omega
                  subst this
                  rw [HR.out] at hr'
                  cases hr'
                  rw [← HW5.out rfl]
                  omega
              case measure => simp [intOf] <;> omega
          · go_wp2
            go_ret
            exact ⟨rfl, HB5.out⟩
        · have i1 : ¬ (i : Int) < (n : Int) := by omega
          have hin : n = i := by omega
          subst hin
          obtain ⟨w0, hw0⟩ : ∃ w0, w0 = wr := ⟨_, rfl⟩
          subst hw0
          have hconds : IsConds w0 w0.heap.size (.slice aa n ac) (l.map (·.cond)) := by
            refine own_conds (B := B) HOWN.out (by rw [List.length_map]; exact HN.out) (fun k c hk => ?_) (Nat.le_trans HB.out hb.size)
            rw [List.getElem?_map] at hk
            obtain ⟨r, hr, rfl⟩ := Option.map_eq_some_iff.1 hk
            have hkn : k < n := by rw [HN.out]; exact (List.getElem?_eq_some_iff.1 hr).1
            exact ⟨cvs k, by rw [List.getElem?_map, List.getElem?_range hkn]; rfl, (HCV.out k r hr).below (hb.mono HB.out)⟩
          have htot := fun W (hW : Below w0.heap.size w0 W) => total_any (.slice aa n ac) (l.map (·.cond)) w0.heap.size W (hconds.below hW) hW.size (by
            intro c hc
            obtain ⟨r, hr, rfl⟩ := List.mem_map.1 hc
            exact (HOK.out.1 r hr).2) (by rw [List.length_map]; have := HN.out; omega) (HTAB.out.below (hb.trans (hW.mono hb.size)) HTAB.out.lt)
          have hdi := HDI.out w0 hb
          have HTOT := Lib.hid htot
          have HDIW := Lib.hid hdi
          obtain ⟨cl, hcl⟩ : ∃ cl, cl = clsOf l x := ⟨_, rfl⟩
          have hclw := HCL.out
          rw [← hcl] at hclw
          have HCLW := Lib.hid hclw
          have HCLE := Lib.hid hcl
          clear hb hconds htot hdi hcl hclw HCL HDI HOWN
          go_upto_region 17 with (first
            | (go_at_call 9; refine (HDIW.out).mono ?_; rintro e w5 ⟨i1', j1, s1, er, rfl, hb5, her, hap⟩; have HB5 := Lib.hid (HBW.out.trans (hb5.mono HBW.out.size)); have HB55 := Lib.hid hb5; have HAP := Lib.hid hap; have HER := Lib.hid her; clear hb5 hap her)
            | (go_at_call 4; refine (HCLW.out _ HB5.out).mono ?_; rintro e w6 ⟨rfl, hb6⟩; have HB6 := Lib.hid (HB5.out.trans (hb6.mono HB5.out.size)); have HB66 := Lib.hid (HB55.out.trans (hb6.mono HB55.out.size)); clear hb6))
          obtain rfl | rfl := HER.out
          · have hap := HAP.out rfl
            have HAPP := Lib.hid hap
            clear hap HAP HER
            rw [show ((0 : Nat) : Int) = 0 from rfl]
            go_upto_region 21 with fail
            go_loopw [17, 103] (fun sv iv wq => ∃ i : Nat, i ≤ n ∧ sv = .bool ((l.take i).any fun r => condH r.cond x) ∧ iv = .int .i64 i ∧ Below w.heap.size w wq ∧ Below w0.heap.size w0 wq) (fun _ iv _ => n - (intOf iv).toNat)
            case atStart => exact ⟨0, Nat.zero_le _, rfl, rfl, HB6.out, HB66.out⟩
            case round =>
              obtain ⟨i, hi', rfl, rfl, hb, hbb⟩ := hrel
              have i0' : (0 : Int) ≤ (i : Int) := by omega
              have HBQ := Lib.hid hb
              have HBQ2 := Lib.hid hbb
              clear hb hbb
              obtain ⟨sm, hsm⟩ : ∃ sm, sm = (l.take i).any fun r => condH r.cond x := ⟨_, rfl⟩
              rw [← hsm]
              have HSM := Lib.hid hsm
              clear hsm
              by_cases hlt' : i < n
              · have i1' : (i : Int) < (n : Int) := by omega
                obtain ⟨r, hr⟩ : ∃ r, l[i]? = some r := ⟨_, List.getElem?_eq_getElem (by have := HN.out; omega)⟩
                obtain ⟨b, o, rfl, hbB, hqq⟩ := HQ.out (by omega)
                have hcell : ∀ W, Below w.heap.size w W → W.cell? ⟨b, o + i * 2, none⟩ = some (.string r.cls) ∧ W.cell? ⟨b, o + i * 2 + 1, none⟩ = some (cvs i) := fun W hW => ⟨(hW.cell (p := ⟨b, o + i * 2, none⟩) (by show b < w.heap.size; have := HB.out; omega)).trans (hqq i r hr).1, (hW.cell (p := ⟨b, o + i * 2 + 1, none⟩) (by show b < w.heap.size; have := HB.out; omega)).trans (hqq i r hr).2⟩
                have hau := fun W (hW : Below w.heap.size w W) => automaton_any2 (cvs i) r.cond B W ((HCV.out i r hr).below (hW.mono HB.out)) (Nat.le_trans HB.out hW.size) (HOK.out.1 r (List.mem_of_getElem? hr)).2 (HWTS.out i r hlt' hr)
                obtain ⟨ca, m, cp, hcve⟩ := HCV1.out i r hr
                rw [hcve] at hcell hau
                have hiff := clsOf_iff HX.out HOK.out HAPP.out hr
                rw [← HCLE.out] at hiff
                obtain ⟨rc, hrc⟩ : ∃ rc, rc = r.cls := ⟨_, rfl⟩
                rw [← hrc] at hcell hiff
                obtain ⟨cx, hcx⟩ : ∃ cx, cx = condH r.cond x := ⟨_, rfl⟩
                rw [← hcx] at hiff
                have heq : (cl.toList == rc.toList) = cx := by
                  cases cx
                  · exact ba_ne fun h => by have := hiff.1 h; cases this
                  · rw [hiff.2 rfl, beq_self_eq_true]
                have a1 := (hcell wr HBQ.out).2
                have hsm1 : (l.take (i + 1)).any (fun r => condH r.cond x) = (sm || cx) := by
                  rw [List.take_add_one, hr, List.any_append, HSM.out, hcx]
                  simp
                have HSM1 := Lib.hid hsm1
                have HCELL := Lib.hid hcell
                have HAU := Lib.hid (hau wr HBQ.out)
                have HCX := Lib.hid hcx
                have HEQ := Lib.hid heq
                clear hr hqq hcell hau hcve hiff hrc hcx heq hsm1 hbB
                go_upto_region 24 with (go_at_call 10; refine (HAU.out).mono ?_; rintro e w7 ⟨hb7, rfl | ⟨nv, av, next, dc, rfl, ⟨na, ncp, rfl, hnv'⟩, ⟨da, dcp, rfl, hav'⟩, hl, h1, h2, hlt2, hacc⟩⟩)
                · have HB7 := Lib.hid (HBQ.out.trans (hb7.mono HBQ.out.size))
                  clear hb7
                  go_quiet (fail)
                  go_wp2
                  go_ret
                  exact ⟨rfl, below_drewN (HB7.out.alloc HB7.out.size _) _⟩
                · have HB7 := Lib.hid (HBQ.out.trans (hb7.mono HBQ.out.size))
                  have HB72 := Lib.hid (HBQ2.out.trans (hb7.mono HBQ2.out.size))
                  have hnv : IsRowsV w7 w7.heap.size (.slice na next.length ncp) next := ⟨na, ncp, rfl, hnv'⟩
                  have hav : IsBools w7 w7.heap.size (.slice da dc.length dcp) dc := ⟨da, dcp, rfl, hav'⟩
                  clear hnv' hav'
                  obtain ⟨nl, hnl⟩ : ∃ nl, nl = next.length := ⟨_, rfl⟩
                  have hrun := fun W (hW : Below w7.heap.size w7 W) => run_any (syms x) next dc (.slice na next.length ncp) (.slice da dc.length dcp) w7.heap.size W (syms_lt HX.out) (hnv.below hW) (hav.below hW) hW.size hl h1 h2 hlt2 (syms_len HX.out)
                  rw [hacc x HX.out, ← HCX.out, ← HSX.out, hl, ← hnl] at hrun
                  rw [← hnl]
                  obtain ⟨w8, hw8⟩ : ∃ w8, w8 = w7.alloc (.cells #[.int .i64 0, .slice na nl ncp, .slice da nl dcp] 40) := ⟨_, rfl⟩
                  have hb8 : Below w7.heap.size w7 w8 := by rw [hw8]; exact (Below.refl _ _).alloc (Nat.le_refl _) _
                  have hg8 : w8.heap[w7.heap.size]? = some (.cells #[.int .i64 0, .slice na nl ncp, .slice da nl dcp] 40 (0, 0)) := by rw [hw8]; exact heap_alloc_new w7 _
                  have x0 : w8.cell? ⟨w7.heap.size, 0, none⟩ = some (.int .i64 0) := by rw [Lib.cell_of_heap hg8]; rfl
                  have x1 : w8.cell? ⟨w7.heap.size, 1, none⟩ = some (.slice na nl ncp) := by rw [Lib.cell_of_heap hg8]; rfl
                  have x2 : w8.cell? ⟨w7.heap.size, 2, none⟩ = some (.slice da nl dcp) := by rw [Lib.cell_of_heap hg8]; rfl
                  have HB8 := Lib.hid (HB7.out.trans (hb8.mono HB7.out.size))
                  have HB82 := Lib.hid (HB72.out.trans (hb8.mono HB72.out.size))
                  have hrun' := fun W (hW : Below w8.heap.size w8 W) => hrun W (hb8.trans (hW.mono hb8.size))
                  have x3 := (HCELL.out w8 HB8.out).1
                  have HRUN := Lib.hid hrun'
                  rw [← hw8]
                  clear hnv hav hrun hrun' hlt2 hacc hl h1 h2 hnl hw8 hg8 hb8 hb7 a1
                  go_region_held3 (fun X => X.cell? ⟨w7.heap.size, 0, none⟩ = some (.int .i64 0) ∧ X.cell? ⟨w7.heap.size, 1, none⟩ = some (.slice na nl ncp) ∧ X.cell? ⟨w7.heap.size, 2, none⟩ = some (.slice da nl dcp) ∧ X.cell? ⟨b, o + i * 2, none⟩ = some (.string rc) ∧ Below w8.heap.size w8 X) (first | assumption | exact ⟨x0, x1, x2, x3, (Below.refl _ _).drew⟩)
                    (first
                      | (go_at_call 11; refine (HRUN.out _ (by first | exact Below.refl _ _ | exact (Below.refl _ _).drew)).mono ?_; rintro e w9 ⟨rfl, hb9⟩; have hS9 := c4b_step (w0 := w8) (by first | exact ⟨x0, x1, x2, x3, Below.refl _ _⟩ | exact ⟨x0, x1, x2, x3, (Below.refl _ _).drew⟩) hb9))
                  have HB9 := Lib.hid (HB8.out.trans (hS9.2.2.2.2.mono HB8.out.size))
                  have HB92 := Lib.hid (HB82.out.trans (hS9.2.2.2.2.mono HB82.out.size))
                  have x3 := hS9.2.2.2.1
                  have heq := HEQ.out
                  clear x0 x1 x2 hS9 hb9
                  rw [heq]
                  simp only [beq_self_eq_true, Bool.not_true]
                  cases sm
                  · go_upto_region 26 with fail
                    go_wp2
                    go_roundw
                    case rel =>
                      exact ⟨i + 1, by omega, by rw [HSM1.out]; simp, by go_num, HB9.out, HB92.out⟩
                    case measure => simp [intOf] <;> omega
                  · go_upto_region 26 with fail
                    go_wp2
                    go_roundw
                    case rel =>
                      exact ⟨i + 1, by omega, by rw [HSM1.out]; simp, by go_num, HB9.out, HB92.out⟩
                    case measure => simp [intOf] <;> omega
              · have i1' : ¬ (i : Int) < (n : Int) := by omega
                have hin : n = i := by omega
                subst hin
                go_upto_region 29 with (go_at_call 12; refine (HTOT.out _ HBQ2.out).mono ?_; rintro e w7 ⟨s7, t7, rfl, hb7, ht7⟩; have HB7 := Lib.hid (HBQ.out.trans (hb7.mono HBQ.out.size)); have HT7 := Lib.hid ht7; clear hb7 ht7)
                have hall : sm = l.any fun r => condH r.cond x := by rw [HSM.out, HN.out, List.take_length]
                have hoth := clsOf_other (x := x) HOK.out
                rw [← HCLE.out, ← hall] at hoth
                have harm := fun W => (HV7.out W).mono (fun e w8 (h : Valid7P s W e w8) => (show e = .returned (.bool true) ∧ Below W.heap.size W w8 from by
                  obtain ⟨bq, rfl, hb8, hq8⟩ := h
                  rw [hq8 HNM.out, HVB.out]
                  exact ⟨rfl, hb8⟩))
                have HARM := Lib.hid harm
                clear harm
                cases sm
                · have hno : t7 = false := by
                    cases t7 with
                    | false => rfl
                    | true =>
                      obtain ⟨c, hc, hcx⟩ := HT7.out rfl x HX.out
                      obtain ⟨r, hr, rfl⟩ := List.mem_map.1 hc
                      exact absurd (List.any_eq_true.2 ⟨r, hr, hcx⟩) (by rw [← hall]; decide)
                  subst hno
                  have hcl : cl = other := Classical.byContradiction fun h => by have := hoth.1 h; cases this
                  have heq : (cl.toList == [111, 116, 104, 101, 114]) = true := by
                    rw [hcl, show other.toList = [111, 116, 104, 101, 114] from HE0.out, beq_self_eq_true]
                  clear hall hoth hcl
                  go_wp2_with (go_at_call 13; refine (HARM.out _).mono ?_; rintro e w8 ⟨rfl, hb8⟩)
                  go_ret
                  exact ⟨rfl, HB7.out.trans (hb8.mono HB7.out.size)⟩
                · have hcl : cl ≠ other := hoth.2 rfl
                  have heq : (cl.toList == [111, 116, 104, 101, 114]) = false := by
                    have := ba_ne hcl
                    rwa [show other.toList = [111, 116, 104, 101, 114] from HE0.out] at this
                  clear hall hoth hcl
                  cases t7
                  all_goals
                    go_wp2_with (go_at_call 13; refine (HARM.out _).mono ?_; rintro e w8 ⟨rfl, hb8⟩)
                    go_ret
                    exact ⟨rfl, HB7.out.trans (hb8.mono HB7.out.size)⟩
          · go_wp2
            go_ret
            exact ⟨rfl, HB6.out⟩
end Go.Proofs.YtbkcmgjmhglghaaGreatDoor
namespace Go.Proofs.YtbkcmgjmhglghaaGreatDoor
open Go.RowKit Go.Deep

theorem list_of {α : Type} {n : Nat} {p : Nat → α → Prop} (h : ∀ i, i < n → ∃ x, p i x) : ∃ l : List α, l.length = n ∧ ∀ i x, l[i]? = some x → p i x := by
  induction n with
  | zero => exact ⟨[], rfl, fun i x hx => by simp at hx⟩
  | succ n ih =>
    obtain ⟨l, hl, hp⟩ := ih fun i hi => h i (by omega)
    obtain ⟨x, hx⟩ := h n (by omega)
    refine ⟨l ++ [x], by simp [hl], fun i y hy => ?_⟩
    by_cases hi : i < n
    · rw [List.getElem?_append_left (by omega)] at hy
      exact hp i y hy
    · rw [List.getElem?_append_right (by omega)] at hy
      have h1 := (List.getElem?_eq_some_iff.1 hy).1
      have : i - l.length = 0 := by
        simp at h1
        omega
      rw [this] at hy
      simp at hy
      subst hy
      have : i = n := by omega
      subst this
      exact hx
/-- Nothing that a reading meets is greater than the form's reach. -/
def Reached {H : Type} (P : Program) (t : TypeId) (d : DataW H) : Prop := ∀ n ∈ d.weights P t, n ≤ reachBytes
theorem all_mem {H : Type} {P : Program} {e : TypeId} : ∀ {l : List (DataW H)} {d : DataW H}, d ∈ l → ∀ n ∈ d.weights P e, n ∈ DataW.weightsAll P e l
  | a :: l, d, h, n, hn => by
    rw [DataW.weightsAll]
    rcases List.mem_cons.1 h with rfl | h
    · exact List.mem_append_left _ hn
    · exact List.mem_append_right _ (all_mem h n hn)
theorem reached_agg {H : Type} {P : Program} {t : TypeId} {fs : Array Field} {parts : List (DataW H)} (hu : P.underlying t = some (.struct fs)) (h : Reached P t (.agg parts)) {j : Nat} {tj : TypeId} {d : DataW H} (ht : (fs.toList.map (·.type))[j]? = some tj) (hd : parts[j]? = some d) : Reached P tj d := fun n hn => by
  refine h n ?_
  simp only [DataW.weights, hu]
  exact DataW.weights_mem_each ht hd n hn
section
variable {H : Type} {enc : TypeId × Value → H} {W : World} {spare : Nat → Bool} {held : Bool}
/-- A slice within the form's reach, its elements told by E. -/
theorem slice_in {P : Program} {t e : TypeId} {fuel k sz : Nat} {v : Value} {x : DataW H × List MemPlace} (ht : P.underlying t = some (.slice e)) (hk : P.cellsOf e = k) (hk0 : 0 < k) (hsz : P.bytesOf e = sz) (hs0 : 0 < sz) (h : DataW.trod enc P W 0 spare held fuel t [v] = some x) (hr : Reached P t x.1) {α : Type} (E : Nat → Nat → α → Prop)
    (hE : ∀ (n b o : Nat) (cs : List Value) (y : DataW H × List MemPlace), b < W.heap.size → cs.length = k → (∀ j, j < k → W.cell? ⟨b, o + j, none⟩ = cs[j]?) → DataW.trod enc P W 0 spare held n e cs = some y → Reached P e y.1 → ∃ a, E b o a) :
    ∃ (ao : Option Addr) (cap : Nat) (l : List α), v = .slice ao l.length cap ∧ l.length ≤ cap ∧ l.length ≤ 140737488351232 ∧ (0 < l.length → ∃ b o, ao = some ⟨b, o, none⟩ ∧ b < W.heap.size ∧ ∀ i a, l[i]? = some a → E b (o + i * k) a) := by
  rcases open_slice ht h with ⟨hcs, rfl⟩ | ⟨a, len, cap, mm, n, D, Pl, hcs, _, hlc, _, hmm, rfl, hx⟩
  · injection hcs with hv _
    exact ⟨none, 0, [], hv, Nat.le_refl _, Nat.zero_le _, fun h => absurd h (Nat.lt_irrefl _)⟩
  · injection hcs with hv _
    subst hv
    rw [hk] at hx
    have hlm : len ≤ mm := by rw [hmm]; split <;> omega
    have hlen : len ≤ 140737488351232 := by
      have h1 := hr (((((List.range len).map D).length + ((List.range (mm - len)).map fun j => D (len + j)).length)) * P.bytesOf e) (by simp [DataW.weights, ht])
      rw [hsz, List.length_map, List.length_range, List.length_map, List.length_range] at h1
      have e1 : reachBytes = 140737488351232 := rfl
      rw [e1] at h1
      have h2 : len * 1 ≤ (len + (mm - len)) * sz := Nat.mul_le_mul (Nat.le_add_right _ _) hs0
      omega
    by_cases h0 : 0 < len
    · obtain ⟨blk, off, spot⟩ := a
      have hspot : spot = none := by
        obtain ⟨cs', hc, _⟩ := hx 0 (by omega)
        obtain ⟨_, hl', hcell⟩ := World.cells?_some hc
        have h1 := hcell 0 hk0
        rw [List.getElem?_eq_getElem (by omega)] at h1
        simpa [Addr.add] using World.cell?_spot h1
      subst hspot
      have hblk : blk < W.heap.size := by
        obtain ⟨cs', hc, _⟩ := hx 0 (by omega)
        obtain ⟨_, hl', hcell⟩ := World.cells?_some hc
        have h1 := hcell 0 hk0
        rw [List.getElem?_eq_getElem (by omega)] at h1
        exact World.block_lt_of_cell? W ⟨blk, off, none⟩ (by simpa [Addr.add] using h1)
      obtain ⟨l, hl, hp⟩ := list_of (n := len) (p := fun i a => E blk (off + i * k) a) fun i hi => by
        obtain ⟨cs', hc, hy⟩ := hx i (by omega)
        obtain ⟨_, hl', hcell⟩ := World.cells?_some hc
        refine hE n blk (off + i * k) cs' (D i, Pl i) hblk hl' (fun j hj => ?_) hy (fun m hm => hr m ?_)
        · have h1 := hcell j hj
          rw [WideShapes.add_plain, WideShapes.add_plain] at h1
          exact h1
        · simp only [DataW.weights, ht]
          refine List.mem_cons_of_mem _ (List.mem_append_left _ (all_mem (d := D i) ?_ m hm))
          exact List.mem_map.2 ⟨i, List.mem_range.2 hi, rfl⟩
      exact ⟨_, cap, l, by rw [hl], by omega, by omega, fun _ => ⟨blk, off, rfl, hblk, hp⟩⟩
    · have : len = 0 := by omega
      subst this
      exact ⟨some a, cap, [], rfl, Nat.zero_le _, Nat.zero_le _, fun h => absurd h (Nat.lt_irrefl _)⟩
theorem cells_i : Tryz.prog.cellsOf 3 = 1 := by kernel_rfl
theorem cells_b : Tryz.prog.cellsOf 4 = 1 := by kernel_rfl
theorem cells_s : Tryz.prog.cellsOf 9 = 1 := by kernel_rfl
theorem cells_sp : Tryz.prog.cellsOf 48 = 2 := by kernel_rfl
theorem cells_sps : Tryz.prog.cellsOf 49 = 1 := by kernel_rfl
theorem cells_re : Tryz.prog.cellsOf 51 = 4 := by kernel_rfl
theorem cells_res : Tryz.prog.cellsOf 52 = 1 := by kernel_rfl
theorem cells_co : Tryz.prog.cellsOf 32 = 1 := by kernel_rfl
theorem cells_ru : Tryz.prog.cellsOf 34 = 2 := by kernel_rfl
theorem bytes_sp : Tryz.prog.bytesOf 48 = 16 := by kernel_rfl
theorem bytes_re : Tryz.prog.bytesOf 51 = 48 := by kernel_rfl
theorem bytes_res : Tryz.prog.bytesOf 52 = 24 := by kernel_rfl
theorem bytes_ru : Tryz.prog.bytesOf 34 = 40 := by kernel_rfl
set_option maxRecDepth 100000 in
theorem spans_in {fuel : Nat} {v : Value} {x : DataW H × List MemPlace} (h : DataW.trod enc Tryz.prog W 0 spare held fuel 49 [v] = some x) (hr : Reached Tryz.prog 49 x.1) : ∃ l, IsSpans W W.heap.size v l ∧ l.length ≤ 140737488351232 := by
  obtain ⟨ao, cap, l, hv, _, hs, hc⟩ := slice_in (k := 2) Tryz.underlying49 cells_sp (by omega) bytes_sp (by omega) h hr (fun b o (a : Sp) => W.cell? ⟨b, o, none⟩ = some (.int .i64 a.1) ∧ W.cell? ⟨b, o + 1, none⟩ = some (.int .i64 a.2)) (fun n b o cs y _ hl hcell hy _ => by
    obtain ⟨y0, y1, n', rfl, _, h0, h1⟩ := ChangeShapes.trod_struct2 Tryz.underlying48 hy
    match cs, hl with
    | [c0, c1], _ =>
      simp only [cells_i, List.drop_zero, List.take_succ_cons, List.take_zero, List.drop_succ_cons] at h0 h1
      obtain ⟨z0, e0, rfl, _⟩ := DataW.trod_int Tryz.underlying3 h0
      obtain ⟨z1, e1, rfl, _⟩ := DataW.trod_int Tryz.underlying3 h1
      injection e0 with e0
      injection e1 with e1
      subst e0 e1
      exact ⟨(z0, z1), hcell 0 (by omega), hcell 1 (by omega)⟩)
  subst hv
  exact ⟨l, ⟨ao, cap, rfl, hc⟩, hs⟩
set_option maxRecDepth 100000 in
theorem rels_in {fuel : Nat} {v : Value} {x : DataW H × List MemPlace} (h : DataW.trod enc Tryz.prog W 0 spare held fuel 52 [v] = some x) (hr : Reached Tryz.prog 52 x.1) : ∃ l, IsRels W W.heap.size v l ∧ l.length ≤ 140737488351232 ∧ ∀ r ∈ l, r.sp.length ≤ 140737488351232 := by
  obtain ⟨ao, cap, l, hv, _, hs, hc⟩ := slice_in (k := 4) Tryz.underlying52 cells_re (by omega) bytes_re (by omega) h hr (fun b o (a : Rel) => (W.cell? ⟨b, o, none⟩ = some (.int .i64 a.op) ∧ W.cell? ⟨b, o + 1, none⟩ = some (.int .i64 a.md) ∧ W.cell? ⟨b, o + 2, none⟩ = some (.bool a.nt) ∧ ∃ sv, W.cell? ⟨b, o + 3, none⟩ = some sv ∧ IsSpans W W.heap.size sv a.sp) ∧ a.sp.length ≤ 140737488351232) (fun n b o cs y _ hl hcell hy hry => by
    obtain ⟨y0, y1, y2, y3, n', rfl, _, h0, h1, h2, h3⟩ := Joins.trod_struct4 Tryz.underlying51 hy
    match cs, hl with
    | [c0, c1, c2, c3], _ =>
      simp only [cells_i, cells_b, cells_sps, List.drop_zero, List.take_succ_cons, List.take_zero, List.drop_succ_cons] at h0 h1 h2 h3
      obtain ⟨z0, e0, rfl, _⟩ := DataW.trod_int Tryz.underlying3 h0
      obtain ⟨z1, e1, rfl, _⟩ := DataW.trod_int Tryz.underlying3 h1
      obtain ⟨z2, e2, rfl⟩ := DataW.trod_bool Tryz.underlying4 h2
      obtain ⟨sl, hsl, hb⟩ := spans_in h3 (reached_agg (j := 3) Tryz.underlying51 hry rfl rfl)
      injection e0 with e0
      injection e1 with e1
      injection e2 with e2
      subst e0 e1 e2
      exact ⟨⟨z0, z1, z2, sl⟩, ⟨hcell 0 (by omega), hcell 1 (by omega), hcell 2 (by omega), c3, hcell 3 (by omega), hsl⟩, hb⟩)
  subst hv
  refine ⟨l, ⟨ao, cap, rfl, fun h0 => ?_⟩, hs, fun r hr => ?_⟩
  · obtain ⟨b, o, h1, h2, h3⟩ := hc h0
    exact ⟨b, o, h1, h2, fun i a hi => (h3 i a hi).1⟩
  · obtain ⟨q, hq, rfl⟩ := List.getElem_of_mem hr
    obtain ⟨b, o, h1, h2, h3⟩ := hc (by omega)
    exact (h3 q _ (List.getElem?_eq_getElem hq)).2
set_option maxRecDepth 100000 in
theorem cond_in {fuel : Nat} {v : Value} {x : DataW H × List MemPlace} (h : DataW.trod enc Tryz.prog W 0 spare held fuel 32 [v] = some x) (hr : Reached Tryz.prog 32 x.1) : ∃ c, IsCond W W.heap.size v c ∧ c.length ≤ 140737488351232 ∧ (∀ l ∈ c, l.length ≤ 140737488351232) ∧ ∀ r ∈ c.flatten, r.sp.length ≤ 140737488351232 := by
  obtain ⟨ao, cap, l, hv, _, hs, hc⟩ := slice_in (k := 1) Tryz.underlying32 cells_res (by omega) bytes_res (by omega) h hr (fun b o (a : List Rel) => (∃ rv, W.cell? ⟨b, o, none⟩ = some rv ∧ IsRels W W.heap.size rv a) ∧ a.length ≤ 140737488351232 ∧ ∀ r ∈ a, r.sp.length ≤ 140737488351232) (fun n b o cs y _ hl hcell hy hry => by
    match cs, hl with
    | [c0], _ =>
      obtain ⟨rl, hrl, hb⟩ := rels_in hy hry
      exact ⟨rl, ⟨c0, hcell 0 (by omega), hrl⟩, hb⟩)
  subst hv
  have key : ∀ a ∈ l, a.length ≤ 140737488351232 ∧ ∀ r ∈ a, r.sp.length ≤ 140737488351232 := fun a ha => by
    obtain ⟨q, hq, rfl⟩ := List.getElem_of_mem ha
    obtain ⟨b, o, h1, h2, h3⟩ := hc (by omega)
    exact (h3 q _ (List.getElem?_eq_getElem hq)).2
  refine ⟨l, ⟨ao, cap, rfl, fun h0 => ?_⟩, hs, fun a ha => (key a ha).1, fun r hr => ?_⟩
  · obtain ⟨b, o, rfl, hb, hh⟩ := hc h0
    exact ⟨b, o, rfl, hb, fun i a hi => by have := (hh i a hi).1; rwa [Nat.mul_one] at this⟩
  · obtain ⟨a, ha, hra⟩ := List.mem_flatten.1 hr
    exact (key a ha).2 r hra
set_option maxRecDepth 100000 in
theorem rules_in {fuel : Nat} {v : Value} {x : DataW H × List MemPlace} (h : DataW.trod enc Tryz.prog W 0 spare held fuel 22 [v] = some x) (hr : Reached Tryz.prog 22 x.1) : ∃ ao cap l, v = .slice ao l.length cap ∧ l.length ≤ cap ∧ IsRules W W.heap.size v l ∧ l.length ≤ 140737488351232 ∧ ∀ r ∈ l, r.cond.length ≤ 140737488351232 ∧ (∀ a ∈ r.cond, a.length ≤ 140737488351232) ∧ ∀ q ∈ r.cond.flatten, q.sp.length ≤ 140737488351232 := by
  obtain ⟨ao, cap, l, hv, hcap, hs, hc⟩ := slice_in (k := 2) Tryz.underlying22 cells_ru (by omega) bytes_ru (by omega) h hr (fun b o (a : Rul) => (W.cell? ⟨b, o, none⟩ = some (.string a.cls) ∧ ∃ cv, W.cell? ⟨b, o + 1, none⟩ = some cv ∧ IsCond W W.heap.size cv a.cond) ∧ a.cond.length ≤ 140737488351232 ∧ (∀ l ∈ a.cond, l.length ≤ 140737488351232) ∧ ∀ r ∈ a.cond.flatten, r.sp.length ≤ 140737488351232) (fun n b o cs y _ hl hcell hy hry => by
    obtain ⟨y0, y1, n', rfl, _, h0, h1⟩ := ChangeShapes.trod_struct2 Tryz.underlying34 hy
    match cs, hl with
    | [c0, c1], _ =>
      simp only [cells_s, cells_co, List.drop_zero, List.take_succ_cons, List.take_zero, List.drop_succ_cons] at h0 h1
      obtain ⟨z0, e0, rfl, _⟩ := DataW.trod_string Tryz.underlying9 h0
      obtain ⟨c, hcc, hb⟩ := cond_in h1 (reached_agg (j := 1) Tryz.underlying34 hry rfl rfl)
      injection e0 with e0
      subst e0
      exact ⟨⟨z0, c⟩, ⟨hcell 0 (by omega), c1, hcell 1 (by omega), hcc⟩, hb⟩)
  subst hv
  refine ⟨ao, cap, l, rfl, hcap, ⟨ao, cap, rfl, fun h0 => ?_⟩, hs, fun r hr => ?_⟩
  · obtain ⟨b, o, h1, h2, h3⟩ := hc h0
    exact ⟨b, o, h1, h2, fun i a hi => (h3 i a hi).1⟩
  · obtain ⟨q, hq, rfl⟩ := List.getElem_of_mem hr
    obtain ⟨b, o, h1, h2, h3⟩ := hc (by omega)
    exact (h3 q _ (List.getElem?_eq_getElem hq)).2
end
end Go.Proofs.YtbkcmgjmhglghaaGreatDoor
