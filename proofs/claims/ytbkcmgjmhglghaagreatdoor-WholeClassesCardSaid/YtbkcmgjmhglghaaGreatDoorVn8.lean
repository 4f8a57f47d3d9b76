/-
  Plain: a text that calqueref07.Split takes is the text of a number.
  calqueref07.Valid, calqueref10.Unsigned.
  calqueref10.all, most.
  calqueref08.Valid, calqueref10.Weight, calqueref14.Valid.
  calqueref10.Weight.
  calqueref14.Valid.
-/
import Derived.Test.YtbkcmgjmhglghaaGreatDoorWj0
import Derived.Test.YtbkcmgjmhglghaaGreatDoorVn2
import Derived.Test.YtbkcmgjmhglghaaGreatDoorVn1
import Derived.Test.YtbkcmgjmhglghaaGreatDoorWr1
import Derived.Test.YtbkcmgjmhglghaaGreatDoorWi5
namespace Go.Proofs.YtbkcmgjmhglghaaGreatDoor
open Go.RowKit

def dgs (l : List UInt8) : List Nat := l.map fun b => b.toNat - 48
theorem dgs_inv {l : List UInt8} (h : ∀ b ∈ l, 48 ≤ b.toNat ∧ b.toNat ≤ 57) : (dgs l).map symB = l ∧ Digs (dgs l) := by
  refine ⟨?_, ?_⟩
  · unfold dgs
    rw [List.map_map]
    conv => rhs; rw [← List.map_id l]
    apply List.map_congr_left
    intro b hb
    obtain ⟨h1, h2⟩ := h b hb
    show symB (b.toNat - 48) = b
    apply UInt8.toNat_inj.1
    rw [symB_nat (by omega)]
    unfold symN
    rw [if_neg (by omega)]
    omega
  · intro d hd
    obtain ⟨b, hb, rfl⟩ := List.mem_map.1 hd
    obtain ⟨h1, h2⟩ := h b hb
    omega
theorem ba_ext {a b : ByteArray} (h : a.data.toList = b.data.toList) : a = b := by
  apply ByteArray.ext
  exact Array.ext' h
/-- A text that is cut at its first point. -/
theorem num_text {s : ByteArray} {k : Nat} {W F : List UInt8} (hs : s.data.toList = W ++ (if k = 0 then [] else 46 :: F)) (hW : ∀ b ∈ W, 48 ≤ b.toNat ∧ b.toNat ≤ 57) (hF : ∀ b ∈ F, 48 ≤ b.toNat ∧ b.toNat ≤ 57) (h0 : k = 0 → F = []) (h1 : k ≠ 0 → F ≠ []) (w1 : 1 ≤ W.length) (w15 : W.length ≤ 15) (wz : 1 < W.length → W.head? ≠ some 48) (f6 : F.length ≤ 6) : ∃ x : Num, x.OK ∧ s = numS (syms x) := by
  obtain ⟨e1, d1⟩ := dgs_inv hW
  obtain ⟨e2, d2⟩ := dgs_inv hF
  refine ⟨⟨dgs W, dgs F⟩, ⟨d1, d2, by simpa [dgs] using w1, by simpa [dgs] using w15, ?_, by simpa [dgs] using f6⟩, ?_⟩
  · intro h
    have hl : 1 < W.length := by simpa [dgs] using h
    have h2 := wz hl
    cases W with
    | nil => simp at hl
    | cons b W =>
      simp only [dgs, List.map_cons, List.head?_cons]
      intro e
      injection e with e
      apply h2
      rw [List.head?_cons]
      congr 1
      have hb := hW b List.mem_cons_self
      have e48 : (48 : UInt8).toNat = 48 := rfl
      exact UInt8.toNat_inj.1 (by omega)
  · apply ba_ext
    rw [numS_list, hs]
    unfold syms
    by_cases hk : k = 0
    · have hf := h0 hk
      subst hf
      rw [if_pos hk, if_pos (by rfl), List.append_nil]
      exact e1.symm
    · have hf := h1 hk
      have hd : dgs F ≠ [] := by
        intro h
        apply hf
        cases F with
        | nil => rfl
        | cons b F => simp [dgs] at h
      rw [if_neg hk, if_neg hd, List.map_append, List.map_cons, e1, e2]
      rfl
end Go.Proofs.YtbkcmgjmhglghaaGreatDoor
namespace Go.Proofs.YtbkcmgjmhglghaaGreatDoor
open Go.RowKit

theorem ext_list (s : ByteArray) (a b : Nat) : (s.extract a b).data.toList = (s.data.toList.drop a).take (b - a) := by
  rw [ByteArray.data_extract, Array.toList_extract, List.extract_eq_take_drop]
theorem vB_form {s : ByteArray} (h : vB s = true) : ∃ x : Num, x.OK ∧ s = numS (syms x) := by
  unfold vB vT at h
  simp only [Bool.and_eq_true, Bool.not_eq_true', decide_eq_true_eq] at h
  obtain ⟨hf, hd, w1, w15, hz, f6⟩ := h
  have hL : s.data.toList = s.data.toList.takeWhile (· != 46) ++ s.data.toList.dropWhile (· != 46) := (List.takeWhile_append_dropWhile ..).symm
  obtain ⟨T, hT⟩ : ∃ T, T = s.data.toList.takeWhile (· != 46) := ⟨_, rfl⟩
  obtain ⟨R, hR⟩ : ∃ R, R = s.data.toList.dropWhile (· != 46) := ⟨_, rfl⟩
  have hk : kOf s = T.length := by unfold kOf; rw [← hT]
  rw [← hT, ← hR] at hL
  have hsz : s.size = T.length + R.length := by
    have h1 := congrArg List.length hL
    rw [List.length_append] at h1
    simpa using h1
  have hW : (whS s).data.toList = T := by
    unfold whS
    rw [ext_list, hk, hL]
    simp
  have hF : (frS s).data.toList = R.drop 1 := by
    unfold frS
    rw [ext_list, hk, hL, List.drop_append, List.drop_eq_nil_of_le (by omega), List.nil_append, show T.length + 1 - T.length = 1 from by omega]
    rw [List.take_of_length_le (by rw [List.length_drop]; omega)]
  have hR46 : R = [] ∨ ∃ R', R = 46 :: R' := by
    rcases hR' : R with _ | ⟨b, R'⟩
    · exact .inl rfl
    · right
      have hb : (b != 46) = false := by
        have h1 := List.head?_dropWhile_not (fun x : UInt8 => x != 46) s.data.toList
        rw [← hR, hR'] at h1
        simpa using h1
      have : b = 46 := by simpa using hb
      exact ⟨R', by rw [this]⟩
  unfold digB at hd
  rw [ByteArray.data_append, Array.toList_append, hW, hF, List.all_append, Bool.and_eq_true, List.all_eq_true, List.all_eq_true] at hd
  have hd1 : ∀ b ∈ T, 48 ≤ b.toNat ∧ b.toNat ≤ 57 := fun b hb => by
    have := hd.1 b hb
    simpa using this
  have hd2 : ∀ b ∈ R.drop 1, 48 ≤ b.toNat ∧ b.toNat ≤ 57 := fun b hb => by
    have := hd.2 b hb
    simpa using this
  have sW : (whS s).size = T.length := by rw [← hW]; simp
  have sF : (frS s).size = (R.drop 1).length := by rw [← hF]; simp
  rw [sW] at w1 w15
  rw [sF] at f6
  rw [hW, sW] at hz
  have hzz : 1 < T.length → T.head? ≠ some 48 := fun h1 h2 => by
    rw [h2] at hz
    simp [h1] at hz
  rcases hR46 with h0 | ⟨R', h1⟩
  · subst h0
    exact num_text (k := 0) (W := T) (F := []) (by rw [hL]; rfl) hd1 (fun _ h => by simp at h) (fun _ => rfl) (fun h => absurd rfl h) w1 w15 hzz (by simp)
  · subst h1
    refine num_text (k := 1) (W := T) (F := R') (by rw [hL]; rfl) hd1 (by simpa using hd2) (fun h => absurd h (by decide)) (fun _ hn => ?_) w1 w15 hzz (by simpa using f6)
    subst hn
    rw [sF, hk, hsz] at hf
    simp at hf
/-- What Valid tells. -/
def Valid7P (s : ByteArray) (w : World) (e : Ending) (w' : World) : Prop := ∃ b, e = .returned (.bool b) ∧ Below w.heap.size w w' ∧ (s.data.toList.head? ≠ some 45 → b = vB s)
set_option maxRecDepth 100000 in
theorem valid7_any (s : ByteArray) (w : World) (hs : s.size ≤ 140737488351232) : Calls Tryz.prog 13 #[.string s] w (Valid7P s w) := by
  have HS := Lib.hid (split7_any s w hs)
  go_enter Tryz.func13, Tryz.ntmps13
  go_wp2_with (go_at_call 39; refine (HS.out).mono ?_; rintro e w5 ⟨ng, W, F, b, rfl, hb5, hh⟩)
  go_ret
  exact ⟨b, rfl, hb5.alloc hb5.size _, hh⟩
/-- What Unsigned tells. -/
def UnsP (s : ByteArray) (w : World) (e : Ending) (w' : World) : Prop := ∃ b, e = .returned (.bool b) ∧ Below w.heap.size w w' ∧ (b = true → s.data.toList.head? ≠ some 45 ∧ vB s = true)
theorem vB_pos {s : ByteArray} (h : vB s = true) : 0 < s.size := by
  obtain ⟨x, hx, rfl⟩ := vB_form h
  rw [numS_size]
  have := hx.2.2.1
  unfold syms
  split
  · omega
  · simp
    omega
set_option maxRecDepth 100000 in
theorem uns10_any (s : ByteArray) (w : World) (hs : s.size ≤ 140737488351232) : Calls Tryz.prog 7 #[.string s] w (UnsP s w) := by
  have HS := Lib.hid (valid7_any s w hs)
  have hways : s.data.toList.head? = some 45 ∨ s.data.toList.head? ≠ some 45 := Classical.em _
  rcases hways with hh | hh
  · have h0 : 0 < s.size := by
      rcases Nat.eq_zero_or_pos s.size with h | h
      · have hl : s.data.toList = [] := List.eq_nil_of_length_eq_zero (by simpa using h)
        rw [hl] at hh
        simp at hh
      · exact h
    obtain ⟨y, hy⟩ : ∃ y : Nat, (s[0]'h0).toNat = y := ⟨_, rfl⟩
    have y45 : y = 45 := by
      rw [head_get h0] at hh
      injection hh with hh
      rw [← hy, hh]
      rfl
    have h2 : ((y : Int) != 45) = false := by simp [y45]
    have h1 : (0 : Int) < (s.size : Int) := by omega
    clear hh
    go_enter Tryz.func7, Tryz.ntmps7
    go_wp2_with (go_at_call 13; refine (HS.out).mono ?_; rintro e w5 ⟨b, rfl, hb5, _⟩; cases b)
    all_goals
      go_ret
      exact ⟨false, rfl, hb5, fun h => by simp at h⟩
  · have hv : vB s = true ∨ vB s = false := by cases vB s <;> simp
    rcases hv with hv | hv
    · have h0 := vB_pos hv
      obtain ⟨y, hy⟩ : ∃ y : Nat, (s[0]'h0).toNat = y := ⟨_, rfl⟩
      have y45 : y ≠ 45 := by
        intro e
        apply hh
        rw [head_get h0]
        congr 1
        have e45 : (45 : UInt8).toNat = 45 := rfl
        exact UInt8.toNat_inj.1 (hy.trans (e.trans e45.symm))
      have h2 : ((y : Int) != 45) = true := by simp; omega
      have h1 : (0 : Int) < (s.size : Int) := by omega
      have HH := Lib.hid hh
      have HV := Lib.hid hv
      clear hh hv
      go_enter Tryz.func7, Tryz.ntmps7
      go_wp2_with (go_at_call 13; refine (HS.out).mono ?_; rintro e w5 ⟨b, rfl, hb5, hvb⟩; have hb := (hvb HH.out).trans HV.out; subst hb)
      go_ret
      exact ⟨true, rfl, hb5, fun _ => ⟨HH.out, HV.out⟩⟩
    · have HH := Lib.hid hh
      have HV := Lib.hid hv
      clear hh hv
      go_enter Tryz.func7, Tryz.ntmps7
      go_wp2_with (go_at_call 13; refine (HS.out).mono ?_; rintro e w5 ⟨b, rfl, hb5, hvb⟩; have hb := (hvb HH.out).trans HV.out; subst hb)
      go_ret
      exact ⟨false, rfl, hb5, fun h => by simp at h⟩
end Go.Proofs.YtbkcmgjmhglghaaGreatDoor
namespace Go.Proofs.YtbkcmgjmhglghaaGreatDoor
open Go.RowKit

set_option maxRecDepth 100000 in
theorem most_any (op md : Int) (nt : Bool) (sv : Value) (sp : List Sp) (B : Nat) (w : World) (hv : IsSpans w B sv sp) (hB : B ≤ w.heap.size) (hx : sp.length ≤ 4) :
    Calls Tryz.prog 21 #[.agg #[.int .i64 op, .int .i64 md, .bool nt, sv]] w fun e w' => e = .returned (.int .i64 (great ⟨op, md, nt, sp⟩)) ∧ Below w.heap.size w w' := by
  obtain ⟨ao, cap, rfl, hc⟩ := hv
  obtain ⟨n, hn⟩ : ∃ n, n = sp.length := ⟨_, rfl⟩
  rw [← hn] at hc hx
  rw [← hn]
  show Calls _ _ _ _ fun e w' => e = .returned (.int .i64 (greatL sp 0)) ∧ _
  obtain ⟨w1, hw1⟩ : ∃ w1, w1 = w.alloc (.cells #[.int .i64 op, .int .i64 md, .bool nt, .slice ao n cap] 51) := ⟨_, rfl⟩
  have hb1 : Below w.heap.size w w1 := by rw [hw1]; exact (Below.refl _ _).alloc (Nat.le_refl _) _
  have hg1 : w1.heap[w.heap.size]? = some (.cells #[.int .i64 op, .int .i64 md, .bool nt, .slice ao n cap] 51 (0, 0)) := by rw [hw1]; exact heap_alloc_new w _
  have HC := Lib.hid hc
  have HN := Lib.hid hn
  have HB1 := Lib.hid hb1
  have HG1 := Lib.hid hg1
  clear hc hn hb1 hg1
  go_enter Tryz.func21, Tryz.ntmps21
  go_upto_region 1 with fail
  rw [← hw1]
  clear hw1
  go_wp2
  go_loopw [3, 4] (fun nv iv wr => ∃ (i : Nat) (m : Int), i ≤ n ∧ iv = .int .i64 i ∧ nv = .int .i64 m ∧ greatL sp 0 = greatL (sp.drop i) m ∧ Below w1.heap.size w1 wr) (fun _ iv _ => n - (intOf iv).toNat)
  case atStart => exact ⟨0, 0, Nat.zero_le _, rfl, rfl, by rw [List.drop_zero], Below.refl _ _⟩
  case round =>
    obtain ⟨i, m, hi, rfl, rfl, hg, hb⟩ := hrel
    have HBW := Lib.hid hb
    have i0 : (0 : Int) ≤ (i : Int) := by omega
    obtain ⟨_, _, _, s3⟩ := rel_cells ((hb.block _ (Array.getElem?_eq_some_iff.1 HG1.out).1).trans HG1.out)
    by_cases hlt : i < n
    · have i1 : (i : Int) < (n : Int) := by omega
      have hil : i < sp.length := by have := HN.out; omega
      obtain ⟨x, hx'⟩ : ∃ x, sp[i]? = some x := ⟨_, List.getElem?_eq_getElem hil⟩
      rw [greatL_drop hx'] at hg
      obtain ⟨b, o, rfl, hbB, hcl⟩ := HC.out (by omega)
      obtain ⟨d0, d1⟩ := hcl i x hx'
      have hbw := HB1.out.trans (hb.mono HB1.out.size)
      have e1 := (hbw.cell (p := ⟨b, o + i * 2 + 1, none⟩) (by show b < w.heap.size; omega)).trans d1
      obtain ⟨x1, x2⟩ := x
      have HG := Lib.hid hg
      clear hcl d0 d1 hx' hb hg hbw
      go_wp2
      go_roundw
      case rel => exact ⟨i + 1, _, by omega, by go_num, rfl, by rw [HG.out], HBW.out⟩
      case measure => simp [intOf] <;> omega
    · have i1 : ¬ (i : Int) < (n : Int) := by omega
      have hd : sp.drop i = [] := List.drop_eq_nil_of_le (by have := HN.out; omega)
      rw [hd] at hg
      have HG := Lib.hid hg
      clear hg hd hb
      go_wp2
      go_ret
      exact ⟨by rw [HG.out]; rfl, HB1.out.trans (HBW.out.mono HB1.out.size)⟩
set_option maxRecDepth 100000 in
set_option maxHeartbeats 1600000 in
theorem all10_any (v : Value) (c : Cnd) (B : Nat) (w : World) (hv : IsCond w B v c) (hB : B ≤ w.heap.size) (hc : condB c = true) :
    Calls Tryz.prog 20 #[v] w fun e w' => ∃ v', e = .returned v' ∧ IsRels w' w'.heap.size v' c.flatten ∧ Below w.heap.size w w' := by
  obtain ⟨_, hl6, ht, hl⟩ := condB_parts hc
  obtain ⟨ao, cap, rfl, hcl⟩ := hv
  obtain ⟨n, hn⟩ : ∃ n, n = c.length := ⟨_, rfl⟩
  rw [← hn] at hcl hl6
  rw [← hn]
  obtain ⟨j0, hj, hz0, hz1, hz2⟩ := info_parts Tryz.infoRel
  have HC := Lib.hid hcl
  have HN := Lib.hid hn
  have HL := Lib.hid hl
  have HT := Lib.hid ht
  have HCB := Lib.hid hB
  clear hcl hn hl hc ht hB
  go_enter Tryz.func20, Tryz.ntmps20
  go_wp2
  go_loopw [3, 4] (fun rv iv wr => ∃ (i : Nat) (ps : List RelV), i ≤ n ∧ iv = .int .i64 i ∧ ps.map (·.1) = (c.take i).flatten ∧ SpansAt w B ps ∧ wr.ownsRow w.heap.size 51 4 rv ps.length (relsC ps) ∧ Below w.heap.size w wr) (fun _ iv _ => n - (intOf iv).toNat)
  case atStart => exact ⟨0, [], Nat.zero_le _, rfl, by simp, fun _ h => by simp at h, World.ownsRow_nil _ _ _ _, Below.refl _ _⟩
  case round =>
    obtain ⟨i, ps, hi, rfl, hps, hsp, hown, hb⟩ := hrel
    have hpl : ps.length ≤ 6 := by
      have := flat_take_le c i
      rw [← hps, List.length_map] at this
      have := HT.out
      omega
    have HPS := Lib.hid hps
    have HSP := Lib.hid hsp
    have HO := Lib.hid hown
    have HBW := Lib.hid hb
    have i0 : (0 : Int) ≤ (i : Int) := by omega
    by_cases hlt : i < n
    · have i1 : (i : Int) < (n : Int) := by omega
      have hil : i < c.length := by have := HN.out; omega
      obtain ⟨l, hx'⟩ : ∃ l, c[i]? = some l := ⟨_, List.getElem?_eq_getElem hil⟩
      obtain ⟨b, o, rfl, hbB, hcl⟩ := HC.out (by omega)
      obtain ⟨rv', d0, hrv⟩ := hcl i l hx'
      have e0 := (hb.cell (p := ⟨b, o + i, none⟩) (by show b < w.heap.size; have := HCB.out; omega)).trans d0
      obtain ⟨l0, l6⟩ := HL.out i l hx'
      obtain ⟨qs, hq1, hq2, ao2, cap2, rfl, hq3⟩ := rels_rows hrv
      obtain ⟨b2, o2, rfl, hb2, hq4⟩ := hq3 l0
      obtain ⟨m, hm⟩ : ∃ m, m = l.length := ⟨_, rfl⟩
      rw [← hm] at l0 l6 e0
      have hml : m = qs.length := by rw [hm, ← hq1, List.length_map]
      have hqc : ∀ j u, (relsC qs)[j]? = some u → wr.cell? ((⟨b2, o2, none⟩ : Addr).add j) = some u := fun j u hu => by
        rw [addr_add]
        exact (HBW.out.cell (p := ⟨b2, o2 + j, none⟩) (by show b2 < w.heap.size; have := HCB.out; omega)).trans (hq4 j u hu)
      have h1 : ∀ u ∈ relsC qs, u.oneCell' = true := fun u hu => by
        obtain ⟨p, hp, hu⟩ := List.mem_flatMap.1 hu
        simp [relC] at hu
        rcases hu with rfl | rfl | rfl | rfl
        · rfl
        · rfl
        · rfl
        · exact (hq2 p hp).slice
      have hql : (relsC qs).length = m * 4 := by unfold relsC; rw [flat_len relC 4 relC_len, hml]
      have HX := Lib.hid hx'
      have HQ1 := Lib.hid hq1
      have HQ2 := Lib.hid hq2
      have HML := Lib.hid hml
      have HSZ := Lib.hid HBW.out.size
      clear hcl d0 hx' hb hrv hq1 hq2 hq3 hq4 hml hm hps hsp
      go_wp2_with (at_builtin; refine wpList_append_own _ rfl _ _ 52 rfl w.heap.size 51 j0 (.agg #[.int .i64 0, .int .i64 0, .bool false, .slice none 0 0]) 4 48 Tryz.underlying52 hj hz0 hz1 hz2 rfl (by decide) _ _ _ rfl hown ⟨b2, o2, none⟩ m cap2 (relsC qs) rfl hql hqc h1 (by unfold maxLen; omega) (by omega) HSZ.out ?_; intro v' w9 hE2 hg2 _)
      go_roundw
      case rel =>
        refine ⟨i + 1, ps ++ qs, by omega, by go_num, ?_, ?_, ?_, ?_⟩
        · rw [List.map_append, HPS.out, HQ1.out, take_succ_flat HX.out]
        · intro p hp
          rcases List.mem_append.1 hp with hp | hp
          · exact HSP.out p hp
          · exact HQ2.out p hp
        · rw [List.length_append, ← HML.out, relsC_app]
          exact hE2
        · exact HBW.out.trans (grown_belowR hg2 HO.out HSZ.out)
      case measure => simp [intOf] <;> omega
    · have i1 : ¬ (i : Int) < (n : Int) := by omega
      have hd : c.take i = c := List.take_of_length_le (by have := HN.out; omega)
      rw [hd] at hps
      have HPS2 := Lib.hid hps
      clear hd hb hps hsp
      go_wp2
      go_ret
      refine ⟨_, rfl, ?_, HBW.out⟩
      rw [← HPS2.out]
      exact (own_rels HO.out (fun p hp => (HSP.out p hp).below (HBW.out.mono HCB.out)) (Nat.le_trans HCB.out HBW.out.size)).1
end Go.Proofs.YtbkcmgjmhglghaaGreatDoor
namespace Go.Proofs.YtbkcmgjmhglghaaGreatDoor
open Go.RowKit

theorem condsRels {w : World} {B : Nat} {v : Value} {c : Cnd} (h : IsCond w B v c) : ∃ (ao : Option Addr) (cap : Nat) (rvs : Nat → Value), v = .slice ao c.length cap ∧ (∀ i l, c[i]? = some l → IsRels w B (rvs i) l) ∧ (0 < c.length → ∃ b o, ao = some ⟨b, o, none⟩ ∧ b < B ∧ ∀ i, i < c.length → w.cell? ⟨b, o + i, none⟩ = some (rvs i)) := by
  obtain ⟨ao, cap, rfl, hc⟩ := h
  by_cases h0 : 0 < c.length
  · obtain ⟨b, o, rfl, hb, hh⟩ := hc h0
    have key : ∀ i, ∃ u, ∀ l, c[i]? = some l → w.cell? ⟨b, o + i, none⟩ = some u ∧ IsRels w B u l := fun i => by
      rcases hc' : c[i]? with _ | l
      · exact ⟨.bool false, fun l h => by cases h⟩
      · obtain ⟨u, h1, h2⟩ := hh i l hc'
        exact ⟨u, fun l' h => by cases h; exact ⟨h1, h2⟩⟩
    exact ⟨_, cap, fun i => Classical.choose (key i), rfl, fun i l hi => (Classical.choose_spec (key i) l hi).2, fun _ => ⟨b, o, rfl, hb, fun i hi => (Classical.choose_spec (key i) _ (List.getElem?_eq_getElem hi)).1⟩⟩
  · refine ⟨ao, cap, fun _ => .bool false, rfl, fun i c hi => ?_, fun h => absurd h h0⟩
    have := (List.getElem?_eq_some_iff.1 hi).1
    omega
/-- What calqueref08.Valid tells where it answers true: its count may wrap. -/
def VB (c : Cnd) : Prop := 0 < c.length ∧ (∀ l ∈ c, 0 < l.length ∧ l.all relB = true) ∧ (total c ≤ 1000 → total c ≤ 6)
theorem condB_of {c : Cnd} (hv : VB c) (hf : FewT c) : condB c = true := by
  obtain ⟨h0, h1, h2⟩ := hv
  have h80 : total c ≤ 80 := hf fun l hl r hr => (relB_sp (List.all_eq_true.1 (h1 l hl).2 r hr)).2
  simp only [condB, Bool.and_eq_true, List.all_eq_true, decide_eq_true_eq]
  exact ⟨⟨h0, fun l hl => ⟨(h1 l hl).1, List.all_eq_true.1 (h1 l hl).2⟩⟩, h2 (by omega)⟩
theorem tame_cond {c : Cnd} (h : condB c = true) : Tame c := by
  obtain ⟨h0, h1, h2, h3⟩ := condB_parts h
  refine ⟨by omega, fun l hl => ?_, fun r hr => ?_⟩
  · obtain ⟨q, hq, rfl⟩ := List.getElem_of_mem hl
    have := (h3 q _ (List.getElem?_eq_getElem hq)).2
    omega
  · have := (relB_sp (condB_rel h hr)).2
    omega
set_option maxRecDepth 100000 in
set_option maxHeartbeats 3200000 in
theorem valid8_any (v : Value) (c : Cnd) (B : Nat) (w : World) (hv : IsCond w B v c) (hB : B ≤ w.heap.size) (ht : Tame c) :
    Calls Tryz.prog 19 #[v] w (TellsB (VB c) w) := by
  obtain ⟨ao, cap, rvs, rfl, hrv, hq⟩ := condsRels hv
  obtain ⟨n, hn⟩ : ∃ n, n = c.length := ⟨_, rfl⟩
  obtain ⟨t1, t2, t4⟩ := ht
  rw [← hn] at hq t1
  rw [← hn]
  have HRV := Lib.hid hrv
  have HQ := Lib.hid hq
  have HN := Lib.hid hn
  have HT2 := Lib.hid t2
  have HT4 := Lib.hid t4
  have HB := Lib.hid hB
  clear hv hrv hq hn t2 t4 hB
  go_enter Tryz.func19, Tryz.ntmps19
  go_wp2
  go_loopw [3, 4] (fun tv iv wr => ∃ (i : Nat) (t : Int), i ≤ n ∧ iv = .int .i64 i ∧ tv = .int .i64 t ∧ (total c ≤ 1000 → t = ((c.take i).flatten.length : Nat)) ∧ Below w.heap.size w wr ∧ ∀ k l, k < i → c[k]? = some l → 0 < l.length ∧ l.all relB = true) (fun _ iv _ => n - (intOf iv).toNat)
  case atStart => exact ⟨0, 0, Nat.zero_le _, rfl, rfl, fun _ => by simp, Below.refl _ _, fun k l h => by omega⟩
  case round =>
    obtain ⟨i, t, hi, rfl, rfl, hts, hb, hall⟩ := hrel
    have HBW := Lib.hid hb
    have HALL := Lib.hid hall
    have i0 : (0 : Int) ≤ (i : Int) := by omega
    by_cases hlt : i < n
    · have i1 : (i : Int) < (n : Int) := by omega
      obtain ⟨l, hx'⟩ : ∃ l, c[i]? = some l := ⟨_, List.getElem?_eq_getElem (by have := HN.out; omega)⟩
      obtain ⟨b, o, rfl, hbB, hqq⟩ := HQ.out (by omega)
      have e0 := (hb.cell (p := ⟨b, o + i, none⟩) (by show b < w.heap.size; have := HB.out; omega)).trans (hqq i hlt)
      have hri := HRV.out i l hx'
      have hll := HT2.out l (List.mem_of_getElem? hx')
      have hfl := take_succ_flat hx'
      obtain ⟨ao2, cap2, svs, hre, hsv, hq2⟩ := rels_fun hri
      obtain ⟨m, hm⟩ : ∃ m, m = l.length := ⟨_, rfl⟩
      rw [← hm] at hre hq2 hll
      have hcell : ∀ W, Below w.heap.size w W → W.cell? ⟨b, o + i, none⟩ = some (rvs i) := fun W hW => (hW.cell (p := ⟨b, o + i, none⟩) (by show b < w.heap.size; have := HB.out; omega)).trans (hqq i hlt)
      rw [hre] at e0 hcell
      have HCELL := Lib.hid hcell
      clear hcell
      have htm : (c.take i).flatten.length + m ≤ total c := by
        have h1 := flat_take_le c (i + 1)
        rw [hfl, List.length_append] at h1
        omega
      have HTM := Lib.hid htm
      clear htm
      have HX := Lib.hid hx'
      have HSV := Lib.hid hsv
      have HQ2 := Lib.hid hq2
      have HM := Lib.hid hm
      have HTS := Lib.hid hts
      have HFLT := Lib.hid hfl
      clear hqq hx' hre hsv hq2 hm hts hfl hb hall hri hbB
      by_cases hm0 : m = 0
      · have hm1 : ((m : Int) == 0) = true := by rw [hm0]; rfl
        go_wp2
        go_ret
        exact ⟨false, rfl, fun h => by simp at h, HBW.out⟩
      · have hm1 : ((m : Int) == 0) = false := by rw [beq_eq_false_iff_ne]; omega
        go_wp2
        go_loopw [3, 5] (fun tv kv wr2 => ∃ (k : Nat) (z : Int), k ≤ m ∧ kv = .int .i64 k ∧ tv = .int .i64 z ∧ (total c ≤ 1000 → z = (((c.take i).flatten.length + k : Nat) : Int)) ∧ Below w.heap.size w wr2 ∧ ∀ j r, j < k → l[j]? = some r → relB r = true) (fun _ kv _ => m - (intOf kv).toNat)
        case atStart => exact ⟨0, t, Nat.zero_le _, rfl, rfl, fun h => HTS.out h, HBW.out, fun j r h => by omega⟩
        case round =>
          obtain ⟨k, z, hk, rfl, rfl, hz, hb2, hall2⟩ := hrel
          have HZ := Lib.hid hz
          clear hz
          have k0 : (0 : Int) ≤ (k : Int) := by omega
          have HB2 := Lib.hid hb2
          have HALL2 := Lib.hid hall2
          have e1 := HCELL.out wr hb2
          by_cases hkm : k < m
          · have k1 : (k : Int) < (m : Int) := by omega
            obtain ⟨r, hr⟩ : ∃ r, l[k]? = some r := ⟨_, List.getElem?_eq_getElem (by have := HM.out; omega)⟩
            have er : l.getD k ⟨0, 0, false, []⟩ = r := by rw [List.getD_eq_getElem?_getD, hr]; rfl
            obtain ⟨b2, o2, rfl, hb2B, hcc⟩ := HQ2.out (by omega)
            obtain ⟨q0, q1, q2, q3⟩ := hcc k hkm
            rw [er] at q0 q1 q2
            have cc := fun k u (h : w.cell? ⟨b2, k, none⟩ = some u) => (hb2.cell (p := ⟨b2, k, none⟩) (by show b2 < w.heap.size; have := HB.out; omega)).trans h
            have a0 := cc _ _ q0
            have a1 := cc _ _ q1
            have a2 := cc _ _ q2
            have a3 := cc _ _ q3
            have hrm : r ∈ c.flatten := List.mem_flatten.2 ⟨l, List.mem_of_getElem? HX.out, List.mem_of_getElem? hr⟩
            have hs4 := HT4.out r hrm
            have hsp := HSV.out k r hr
            have HR := Lib.hid hr
            obtain ⟨op, md, nt, sp⟩ := r
            simp only at a0 a1 a2 hs4
            generalize svs k = sv at hsp a3
            have hpr := proper_any op md nt sv sp B wr (hsp.below (hb2.mono HB.out)) (Nat.le_trans HB.out hb2.size) (by omega)
            obtain ⟨aS, cS, hse, _⟩ := hsp
            obtain ⟨ms, hms⟩ : ∃ ms, ms = sp.length := ⟨_, rfl⟩
            rw [← hms] at hse
            subst hse
            obtain ⟨RB, hRB⟩ : ∃ RB, RB = relB ⟨op, md, nt, sp⟩ := ⟨_, rfl⟩
            rw [← hRB] at hpr
            have HPR := Lib.hid hpr
            have HRB := Lib.hid hRB
            clear hr er hcc q0 q1 q2 q3 cc hrm hs4 hpr hms hRB hb2 hall2 hb2B
            cases RB
            · go_wp2_with (go_at_call 50; refine (HPR.out).mono ?_; rintro e w5 ⟨rfl, hb5⟩; have HB5 := Lib.hid (HB2.out.trans (hb5.mono HB2.out.size)); clear hb5)
              go_ret
              exact ⟨false, rfl, fun h => by simp at h, HB5.out⟩
            · go_wp2_with (go_at_call 50; refine (HPR.out).mono ?_; rintro e w5 ⟨rfl, hb5⟩; have HB5 := Lib.hid (HB2.out.trans (hb5.mono HB2.out.size)); clear hb5)
              go_roundw
              case rel =>
                refine ⟨k + 1, _, by omega, by go_num, rfl, fun h => by rw [HZ.out h]; have := HTM.out; rw [wrap_id (by omega) (by omega)]; omega, HB5.out, fun j r hj hjr => ?_⟩
                by_cases hjk : j < k
                · exact HALL2.out j r hjk hjr
                · have : j = k := by omega
                  subst this
                  rw [HR.out] at hjr
                  cases hjr
                  exact HRB.out.symm
              case measure => simp [intOf] <;> omega
          · have k1 : ¬ (k : Int) < (m : Int) := by omega
            clear hb2 hall2
            go_wp2
            go_roundw
            case rel =>
              refine ⟨i + 1, z, by omega, by go_num, rfl, fun h => by
                have : k = m := by omega
                rw [HZ.out h, HFLT.out, List.length_append, this, HM.out], HB2.out, fun j l' hj hjl => ?_⟩
              by_cases hji : j < i
              · exact HALL.out j l' hji hjl
              · have : j = i := by omega
                subst this
                rw [HX.out] at hjl
                cases hjl
                refine ⟨by have := HM.out; omega, ?_⟩
                rw [List.all_eq_true]
                intro r hr
                obtain ⟨q, hq, rfl⟩ := List.getElem_of_mem hr
                exact HALL2.out q _ (by have := HM.out; omega) (List.getElem?_eq_getElem hq)
            case measure => simp [intOf] <;> omega
    · have i1 : ¬ (i : Int) < (n : Int) := by omega
      have hti : total c ≤ 1000 → t = total c := fun h => by rw [hts h, List.take_of_length_le (by have := HN.out; omega), total_flatten]
      have HTI := Lib.hid hti
      clear hb hall hts hti
      by_cases hn0 : 0 < n
      · have n1 : (0 : Int) < (n : Int) := by omega
        by_cases ht6 : t ≤ 6
        · have t1' : t ≤ 6 := ht6
          have HT6 := Lib.hid ht6
          have HN0 := Lib.hid hn0
          clear ht6 hn0
          go_wp2
          go_ret
          refine ⟨true, rfl, fun _ => ?_, HBW.out⟩
          refine ⟨by have := HN0.out; have := HN.out; omega, fun l hl => ?_, fun h => by have := HT6.out; have := HTI.out h; omega⟩
          obtain ⟨q, hq, rfl⟩ := List.getElem_of_mem hl
          exact HALL.out q _ (by have := HN.out; omega) (List.getElem?_eq_getElem hq)
        · have t1' : ¬ t ≤ 6 := ht6
          go_wp2
          go_ret
          exact ⟨false, rfl, fun h => by simp at h, HBW.out⟩
      · have n1 : ¬ (0 : Int) < (n : Int) := by omega
        go_wp2
        go_ret
        exact ⟨false, rfl, fun h => by simp at h, HBW.out⟩
end Go.Proofs.YtbkcmgjmhglghaaGreatDoor
namespace Go.Proofs.YtbkcmgjmhglghaaGreatDoor
open Go.RowKit

def WgtP (c : Cnd) (w : World) (e : Ending) (w' : World) : Prop := ∃ (n er : Nat), e = .returned (.tuple #[.int .i64 n, .int .i64 er]) ∧ (er = 0 → n = wfold c.flatten 1) ∧ er ≤ 1 ∧ Below w.heap.size w w'
theorem min_sq' (t z : Nat) (Z : Int) (hZ : (z : Int) = Z) (ht : t ≤ 1000000) (hz : z ≤ 102) : Value.int .i64 (min 1000000 (wrap64 (t * wrap64 (Z * Z)))) = .int .i64 ((min 1000000 (t * (z * z)) : Nat) : Int) := by
  rw [Int.min_comm]
  exact min_sq t z Z hZ ht hz
theorem min_one' (t z : Nat) (Z : Int) (hZ : (z : Int) = Z) (ht : t ≤ 1000000) (hz : z ≤ 102) : Value.int .i64 (min 1000000 (wrap64 (t * Z))) = .int .i64 ((min 1000000 (t * z) : Nat) : Int) := by
  rw [Int.min_comm]
  exact min_one t z Z hZ ht hz
set_option maxRecDepth 100000 in
set_option maxHeartbeats 3200000 in
theorem weight10_any (v : Value) (c : Cnd) (B : Nat) (w : World) (hv : IsCond w B v c) (hB : B ≤ w.heap.size) (hc : condB c = true) :
    Calls Tryz.prog 8 #[v] w (WgtP c w) := by
  have hrel := fun r (hr : r ∈ c.flatten) => condB_rel hc hr
  have h6 := condB_total hc
  have hval := valid8_any v c B w hv hB (tame_cond hc)
  have hall := fun W (hW : Below w.heap.size w W) => all10_any v c B W (hv.below (hW.mono hB)) (Nat.le_trans hB hW.size) hc
  obtain ⟨ao, cap, rfl, _⟩ := hv
  obtain ⟨n, hn⟩ : ∃ n, n = c.length := ⟨_, rfl⟩
  rw [← hn] at hval hall
  rw [← hn]
  obtain ⟨l, hl⟩ : ∃ l, l = c.flatten := ⟨_, rfl⟩
  rw [← hl] at hrel h6 hall
  have HVAL := Lib.hid hval
  have HALL := Lib.hid hall
  have HR := Lib.hid hrel
  have HL := Lib.hid hl
  clear hval hall hrel hl hc hn
  go_enter Tryz.func8, Tryz.ntmps8
  go_wp2_with (first
    | (go_at_call 19; refine (HVAL.out).mono ?_; rintro e w4 ⟨vb, rfl, _, hb4⟩; have HB4 := Lib.hid hb4; clear hb4; cases vb)
    | (go_at_call 20; refine (HALL.out _ HB4.out).mono ?_; rintro e w5 ⟨v', rfl, hr5, hb5⟩; have HR5 := Lib.hid hr5; have HB5 := Lib.hid (HB4.out.trans (hb5.mono HB4.out.size)); clear hr5 hb5))
  · go_ret2
    exact ⟨0, 1, rfl, fun h => absurd h (by decide), Nat.le_refl _, HB4.out⟩
  · obtain ⟨ao2, cap2, svs, hve, hsv, hq⟩ := rels_fun HR5.out
    obtain ⟨m, hm⟩ : ∃ m, m = l.length := ⟨_, rfl⟩
    rw [← hm] at hve hq h6
    subst hve
    have HSV := Lib.hid hsv
    have HQ := Lib.hid hq
    have HM := Lib.hid hm
    clear hsv hq hm
    go_loopw [4, 6] (fun nv kv wr => ∃ (k t : Nat), k ≤ m ∧ kv = .int .i64 k ∧ nv = .int .i64 t ∧ t ≤ 1000000 ∧ wfold l 1 = wfold (l.drop k) t ∧ Below w5.heap.size w5 wr) (fun _ kv _ => m - (intOf kv).toNat)
    case atStart => exact ⟨0, 1, Nat.zero_le _, rfl, rfl, by omega, by rw [List.drop_zero], Below.refl _ _⟩
    case round =>
      obtain ⟨k, t, hk, rfl, rfl, ht, hwf, hb⟩ := hrel
      have HBW := Lib.hid hb
      have k0 : (0 : Int) ≤ (k : Int) := by omega
      by_cases hkt : k < m
      · have k1 : (k : Int) < (m : Int) := by omega
        have hkl : k < l.length := by have := HM.out; omega
        obtain ⟨r, hr⟩ : ∃ r, l[k]? = some r := ⟨_, List.getElem?_eq_getElem hkl⟩
        have er : l.getD k ⟨0, 0, false, []⟩ = r := by rw [List.getD_eq_getElem?_getD, hr]; rfl
        have hrB := HR.out r (List.mem_of_getElem? hr)
        have hdr : l.drop k = r :: l.drop (k + 1) := by
          obtain ⟨_, e⟩ := List.getElem?_eq_some_iff.1 hr
          rw [List.drop_eq_getElem_cons hkl, e]
        rw [hdr] at hwf
        have hwf2 : wfold l 1 = wfold (l.drop (k + 1)) (min 1000000 (t * wt r)) := hwf
        obtain ⟨b2, o2, rfl, hb2B, hqc⟩ := HQ.out (by omega)
        obtain ⟨q0, q1, q2, q3⟩ := hqc k hkt
        rw [er] at q0 q1 q2
        have cc := fun k u (h : w5.cell? ⟨b2, k, none⟩ = some u) => (hb.cell (p := ⟨b2, k, none⟩) hb2B).trans h
        have a0 := cc _ _ q0
        have a1 := cc _ _ q1
        have a2 := cc _ _ q2
        have a3 := cc _ _ q3
        obtain ⟨s1, s2⟩ := trsz_size hrB
        have hw1 := wt_ge hrB
        have hw2 := trsz_ge hrB
        have hgr0 := great_nonneg r
        have hgr1 := great_le hrB
        have h4 := (relB_sp hrB).2
        have hsp := HSV.out k r hr
        obtain ⟨op, md, nt, sp⟩ := r
        generalize svs k = sv at hsp a3
        have hmo := most_any op md nt sv sp w5.heap.size wr (hsp.below hb) hb.size h4
        obtain ⟨aS, cS, hse, _⟩ := hsp
        obtain ⟨ms, hms⟩ : ∃ ms, ms = sp.length := ⟨_, rfl⟩
        simp only at hse
        rw [← hms] at hse
        subst hse
        obtain ⟨g, hg⟩ : ∃ g, g = great ⟨op, md, nt, sp⟩ := ⟨_, rfl⟩
        obtain ⟨z, hz⟩ : ∃ z, z = trsz ⟨op, md, nt, sp⟩ := ⟨_, rfl⟩
        obtain ⟨y, hy⟩ : ∃ y, y = wt ⟨op, md, nt, sp⟩ := ⟨_, rfl⟩
        have hyz : y = if op = 6 then z * z else z := by rw [hy, hz]; rfl
        rw [← hg] at s1 hgr0 hgr1 hmo
        rw [← hz] at s1 s2 hw1 hw2
        rw [← hy] at hw1 hwf2
        simp only at s1 s2 a0 a1 a2 a3
        have HWF := Lib.hid hwf2
        have HMO := Lib.hid hmo
        have HYZ := Lib.hid hyz
        have hzz : z * z ≤ 102 * 102 := Nat.mul_le_mul hw2.2 hw2.2
        have hzt : t * z ≤ 1000000 * 102 := Nat.mul_le_mul ht hw2.2
        have hyt : t * y ≤ 1000000 * 10404 := Nat.mul_le_mul ht hw1.2
        clear hwf hwf2 hdr hr hrB hqc q0 q1 q2 q3 cc hmo hg hz hy hyz h4 hb hkl er hms
        by_cases o6 : op = 6
        · subst o6
          by_cases m0 : md = 0
          · subst m0
            have z1 : (z : Int) = g + 2 := s1 rfl
            have hy : y = z * z := by rw [HYZ.out]; rfl
            go_wp2_with (go_at_call 21; refine (HMO.out).mono ?_; rintro e w6 ⟨rfl, hb6⟩; have h6 := (hb6.cell (p := ⟨b2, o2 + k * 4, none⟩) (World.block_lt_of_cell? wr _ a0)).trans a0; have HB6 := Lib.hid (HBW.out.trans (hb6.mono HBW.out.size)); clear hb6)
            all_goals
              go_roundw
              case rel => exact ⟨k + 1, min 1000000 (t * y), by omega, by go_num, by rw [hy]; exact min_sq' t z _ z1 ht hw2.2, Nat.min_le_left _ _, HWF.out, by first | exact HB6.out | exact HBW.out⟩
              case measure => simp [intOf] <;> omega
          · have z1 : (z : Int) = md := s2 m0
            have m0b : (md == 0) = false := by simp [m0]
            have hy : y = z * z := by rw [HYZ.out]; rfl
            go_wp2
            all_goals
              go_roundw
              case rel => exact ⟨k + 1, min 1000000 (t * y), by omega, by go_num, by rw [hy]; exact min_sq' t z _ z1 ht hw2.2, Nat.min_le_left _ _, HWF.out, HBW.out⟩
              case measure => simp [intOf] <;> omega
        · have o6b : (op == 6) = false := by simp [o6]
          by_cases m0 : md = 0
          · subst m0
            have z1 : (z : Int) = g + 2 := s1 rfl
            have hy : y = z := by rw [HYZ.out]; rw [if_neg o6]
            go_wp2_with (go_at_call 21; refine (HMO.out).mono ?_; rintro e w6 ⟨rfl, hb6⟩; have h6 := (hb6.cell (p := ⟨b2, o2 + k * 4, none⟩) (World.block_lt_of_cell? wr _ a0)).trans a0; have HB6 := Lib.hid (HBW.out.trans (hb6.mono HBW.out.size)); clear hb6)
            all_goals
              go_roundw
              case rel => exact ⟨k + 1, min 1000000 (t * y), by omega, by go_num, by rw [hy]; exact min_one' t z _ z1 ht hw2.2, Nat.min_le_left _ _, HWF.out, by first | exact HB6.out | exact HBW.out⟩
              case measure => simp [intOf] <;> omega
          · have z1 : (z : Int) = md := s2 m0
            have m0b : (md == 0) = false := by simp [m0]
            have hy : y = z := by rw [HYZ.out]; rw [if_neg o6]
            go_wp2
            all_goals
              go_roundw
              case rel => exact ⟨k + 1, min 1000000 (t * y), by omega, by go_num, by rw [hy]; exact min_one' t z _ z1 ht hw2.2, Nat.min_le_left _ _, HWF.out, HBW.out⟩
              case measure => simp [intOf] <;> omega
      · have k1 : ¬ (k : Int) < (m : Int) := by omega
        have hd : l.drop k = [] := List.drop_eq_nil_of_le (by have := HM.out; omega)
        rw [hd] at hwf
        have HWF := Lib.hid hwf
        clear hd hwf hb
        go_wp2
        go_ret2
        exact ⟨t, 0, rfl, fun _ => by rw [← HL.out, HWF.out]; rfl, Nat.zero_le _, HB5.out.trans (HBW.out.mono HB5.out.size)⟩
end Go.Proofs.YtbkcmgjmhglghaaGreatDoor
namespace Go.Proofs.YtbkcmgjmhglghaaGreatDoor
open Go.RowKit

def hasN (s : ByteArray) : Bool := clsNames.any fun z => z.toList == s.toList
theorem hasN_mem {s : ByteArray} (h : hasN s = true) : s ∈ clsNames := by
  obtain ⟨z, hz, he⟩ := List.any_eq_true.1 h
  have := ba_eq (by simpa using he)
  subst this
  exact hz
set_option maxRecDepth 100000 in
set_option maxHeartbeats 1600000 in
theorem has14x_any (g : Nat) (s : ByteArray) (w : World) (hg : ∀ j, j < 5 → w.cell? ⟨g, j, none⟩ = some (.string (clsNames.getD j ByteArray.empty))) :
    Calls Tryz.prog 17 #[.slice (some ⟨g, 0, none⟩) 5 5, .string s] w fun e w' => e = .returned (.bool (hasN s)) ∧ Below w.heap.size w w' := by
  obtain ⟨R, hR⟩ : ∃ R, R = hasN s := ⟨_, rfl⟩
  rw [← hR]
  have HR := Lib.hid hR
  have HG := Lib.hid hg
  clear hg hR
  go_enter Tryz.func17, Tryz.ntmps17
  go_wp2
  go_loopw [5] (fun iv wr => ∃ i : Nat, i ≤ 5 ∧ iv = .int .i64 i ∧ Below w.heap.size w wr ∧ ∀ j, j < i → clsNames.getD j ByteArray.empty ≠ s) (fun iv _ => 5 - (intOf iv).toNat)
  case atStart => exact ⟨0, by omega, rfl, Below.refl _ _, fun j hj => by omega⟩
  case round =>
    obtain ⟨i, hi, rfl, hb, hno⟩ := hrel
    have HBW := Lib.hid hb
    have HNO := Lib.hid hno
    have i0 : (0 : Int) ≤ (i : Int) := by omega
    by_cases hlt : i < 5
    · have i1 : (i : Int) < 5 := by omega
      have c0 := (hb.cell (p := ⟨g, i, none⟩) (World.block_lt_of_cell? w _ (HG.out i hlt))).trans (HG.out i hlt)
      obtain ⟨z, hz⟩ : ∃ z, z = clsNames.getD i ByteArray.empty := ⟨_, rfl⟩
      rw [← hz] at c0
      have HZ := Lib.hid hz
      clear hz hb hno
      by_cases he : z = s
      · subst he
        go_wp2
        go_ret
        refine ⟨?_, HBW.out⟩
        have hm : z ∈ clsNames := by
          rw [HZ.out, List.getD_eq_getElem?_getD, List.getElem?_eq_getElem (show i < clsNames.length from hlt)]
          exact List.getElem_mem _
        rw [HR.out, show hasN z = true from List.any_eq_true.2 ⟨z, hm, by simp⟩]
        rfl
      · have hne := ba_ne he
        go_wp2
        go_roundw
        case rel =>
          refine ⟨i + 1, by omega, by go_num, HBW.out, fun j hj => ?_⟩
          by_cases hji : j < i
          · exact HNO.out j hji
          · have : j = i := by omega
            subst this
            rw [← HZ.out]
            exact he
        case measure => simp [intOf] <;> omega
    · have i1 : ¬ (i : Int) < 5 := by omega
      clear hb hno
      go_wp2
      go_ret
      refine ⟨?_, HBW.out⟩
      have hf : hasN s = false := by
        rw [Bool.eq_false_iff]
        intro h
        have hm := hasN_mem h
        obtain ⟨j, hj, e⟩ := List.getElem_of_mem hm
        have hj5 : j < 5 := hj
        refine HNO.out j (by omega) ?_
        rw [List.getD_eq_getElem?_getD, List.getElem?_eq_getElem hj]
        exact e
      rw [HR.out, hf]
      rfl
/-- What calqueref14.Valid tells where it answers true. -/
def RulesVB (l : List Rul) : Prop := (∀ r ∈ l, r.cls ∈ clsNames ∧ VB r.cond) ∧ ∀ (i k : Nat) (ri rk : Rul), k < i → l[i]? = some ri → l[k]? = some rk → rk.cls ≠ ri.cls
theorem rules_ok {l : List Rul} (hv : RulesVB l) (hf : ∀ r ∈ l, FewT r.cond) : RulesOK l := ⟨fun r hr => ⟨(hv.1 r hr).1, condB_of (hv.1 r hr).2 (hf r hr)⟩, hv.2⟩
set_option maxRecDepth 100000 in
set_option maxHeartbeats 6400000 in
theorem valid14_any (v : Value) (l : List Rul) (B : Nat) (w : World) (hv : IsRules w B v l) (hB : B ≤ w.heap.size) (ht : ∀ r ∈ l, Tame r.cond) (hl : l.length ≤ 140737488351232) :
    Calls Tryz.prog 6 #[v] w (TellsB (RulesVB l) w) := by
  obtain ⟨ao, cap, cvs, rfl, hcv, hq⟩ := rulesAt hv
  obtain ⟨n, hn⟩ : ∃ n, n = l.length := ⟨_, rfl⟩
  rw [← hn] at hq hl
  rw [← hn]
  have HCV := Lib.hid hcv
  have HQ := Lib.hid hq
  have HN := Lib.hid hn
  have HT := Lib.hid ht
  have HB := Lib.hid hB
  clear hv hcv hq hn ht hB
  go_enter Tryz.func6, Tryz.ntmps6
  go_wp2
  go_loopw [3] (fun iv wr => ∃ i : Nat, i ≤ n ∧ iv = .int .i64 i ∧ Below w.heap.size w wr ∧ (∀ k r, k < i → l[k]? = some r → r.cls ∈ clsNames ∧ VB r.cond) ∧ ∀ (a k : Nat) (ra rk : Rul), k < a → a < i → l[a]? = some ra → l[k]? = some rk → rk.cls ≠ ra.cls) (fun iv _ => n - (intOf iv).toNat)
  case atStart => exact ⟨0, Nat.zero_le _, rfl, Below.refl _ _, fun k r h => by omega, fun a k ra rk _ h => by omega⟩
  case round =>
    obtain ⟨i, hi, rfl, hb, hok, hdi⟩ := hrel
    have i0 : (0 : Int) ≤ (i : Int) := by omega
    have HBW := Lib.hid hb
    have HOK := Lib.hid hok
    have HDI := Lib.hid hdi
    clear hok hdi
    by_cases hlt : i < n
    · have i1 : (i : Int) < (n : Int) := by omega
      obtain ⟨r, hr⟩ : ∃ r, l[i]? = some r := ⟨_, List.getElem?_eq_getElem (by have := HN.out; omega)⟩
      obtain ⟨b, o, rfl, hbB, hqq⟩ := HQ.out (by omega)
      have hcell : ∀ W, Below w.heap.size w W → ∀ k rk, l[k]? = some rk → W.cell? ⟨b, o + k * 2, none⟩ = some (.string rk.cls) ∧ W.cell? ⟨b, o + k * 2 + 1, none⟩ = some (cvs k) := fun W hW k rk hk =>
        ⟨(hW.cell (p := ⟨b, o + k * 2, none⟩) (by show b < w.heap.size; have := HB.out; omega)).trans (hqq k rk hk).1, (hW.cell (p := ⟨b, o + k * 2 + 1, none⟩) (by show b < w.heap.size; have := HB.out; omega)).trans (hqq k rk hk).2⟩
      obtain ⟨a0, a1⟩ := hcell wr hb i r hr
      have hcvi := HCV.out i r hr
      have htr := HT.out r (List.mem_of_getElem? hr)
      have hval := fun W (hW : Below w.heap.size w W) => valid8_any (cvs i) r.cond B W (hcvi.below (hW.mono HB.out)) (Nat.le_trans HB.out hW.size) htr
      obtain ⟨ca, cp, hcve, _⟩ := hcvi
      obtain ⟨m, hm⟩ : ∃ m, m = r.cond.length := ⟨_, rfl⟩
      rw [← hm] at hcve
      rw [hcve] at a1 hval
      obtain ⟨rc, hrc⟩ : ∃ rc, rc = r.cls := ⟨_, rfl⟩
      rw [← hrc] at a0
      have hhas := fun g W hg => has14x_any g rc W hg
      obtain ⟨HN1, hHN⟩ : ∃ H, H = hasN rc := ⟨_, rfl⟩
      rw [← hHN] at hhas
      have HCELL := Lib.hid hcell
      have HVAL := Lib.hid hval
      have HHAS := Lib.hid hhas
      have HHN := Lib.hid hHN
      have HRC := Lib.hid hrc
      have HR := Lib.hid hr
      clear hcell hval hhas hHN hrc hr hqq hcve hm htr hb hbB
      go_upto_region 4 with fail
      go_cut [27] (fun bv wx => ∃ bad : Bool, bv = .bool bad ∧ Below w.heap.size w wx ∧ (bad = false → rc ∈ clsNames ∧ VB r.cond))
      case first =>
        cases HN1
        · first
            | go_region_with (first
                | (go_at_call 18; refine (classes12_any _).mono ?_; rintro e w5 ⟨rfl, hc5, hb5⟩; have HC5 := Lib.hid hc5; have HB5 := Lib.hid ((Below.refl wr.heap.size wr).drew.trans hb5); have a05 := (HB5.out.cell (p := ⟨b, o + i * 2, none⟩) (World.block_lt_of_cell? wr _ a0)).trans a0)
                | (go_at_call 17; refine (HHAS.out _ _ HC5.out).mono ?_; rintro e w6 ⟨rfl, hb6⟩; have HB6 := Lib.hid (HB5.out.trans (hb6.mono HB5.out.size))))
            | fail
          all_goals
            go_wp2
            go_meet
            exact ⟨true, rfl, HBW.out.trans (HB6.out.mono HBW.out.size), fun h => by simp at h⟩
        · go_region_held3 (fun X => X.cell? ⟨b, o + i * 2, none⟩ = some (.string rc) ∧ X.cell? ⟨b, o + i * 2 + 1, none⟩ = some (.slice ca m cp) ∧ Below w.heap.size w X) (first | assumption | exact ⟨a0, a1, HBW.out.drew⟩)
            (first
              | (go_at_call 18; refine (classes12_any _).mono ?_; rintro e w5 ⟨rfl, hc5, hb5⟩; have HC5 := Lib.hid hc5; have hS5 := c2_step (by assumption) hb5)
              | (go_at_call 17; refine (HHAS.out _ _ HC5.out).mono ?_; rintro e w6 ⟨rfl, hb6⟩; have hS6 := c2_step (by assumption) hb6)
              | (go_at_call 19; refine (HVAL.out _ hS6.2.2).mono ?_; rintro e w7 ⟨vb, rfl, hvb, hb7⟩; have hS7 := c2_step (by assumption) hb7))
          go_wp2
          go_meet
          refine ⟨!vb, rfl, hS7.2.2, fun h => ⟨hasN_mem HHN.out.symm, hvb (by simpa using h)⟩⟩
      case rest =>
        obtain ⟨bad, rfl, hbc, hgood⟩ := hcut
        have HBC := Lib.hid hbc
        have HGOOD := Lib.hid hgood
        clear hbc hgood a0 a1
        cases bad
        case true =>
          go_wp2
          go_ret
          exact ⟨false, rfl, fun h => by simp at h, HBC.out⟩
        case false =>
          go_wp2
          go_loopw [4] (fun kv wr2 => ∃ k : Nat, k ≤ i ∧ kv = .int .i64 k ∧ Below w.heap.size w wr2 ∧ ∀ j rj, j < k → l[j]? = some rj → rj.cls ≠ rc) (fun kv _ => i - (intOf kv).toNat)
          case atStart => exact ⟨0, Nat.zero_le _, rfl, HBC.out, fun j rj h => by omega⟩
          case round =>
            obtain ⟨k, hk, rfl, hb2, hdis⟩ := hrel
            have k0 : (0 : Int) ≤ (k : Int) := by omega
            have HB2 := Lib.hid hb2
            have HDIS := Lib.hid hdis
            clear hdis
            by_cases hki : k < i
            · have k1 : (k : Int) < (i : Int) := by omega
              have k2 : (k : Int) < (n : Int) := by omega
              obtain ⟨rk, hrk⟩ : ∃ rk, l[k]? = some rk := ⟨_, List.getElem?_eq_getElem (by have := HN.out; omega)⟩
              obtain ⟨c0, _⟩ := HCELL.out _ hb2 k rk hrk
              obtain ⟨c1, _⟩ := HCELL.out _ hb2 i r HR.out
              rw [← HRC.out] at c1
              obtain ⟨kc, hkc⟩ : ∃ kc, kc = rk.cls := ⟨_, rfl⟩
              rw [← hkc] at c0
              obtain ⟨EQ, hEQ⟩ : ∃ EQ, EQ = (kc.toList == rc.toList) := ⟨_, rfl⟩
              have hEQ' := hEQ.symm
              have HEQ := Lib.hid hEQ
              have HKC := Lib.hid hkc
              have HRK := Lib.hid hrk
              clear hEQ hkc hrk hb2
              cases EQ
              · go_upto_region 9 with fail
                go_quiet (fail)
                go_wp2
                go_roundw
                case rel =>
                  refine ⟨k + 1, by omega, by go_num, by first | exact HB2.out | exact below_drewN HB2.out _ | exact HB2.out.drew, fun j rj hj hjr => ?_⟩
                  by_cases hjk : j < k
                  · exact HDIS.out j rj hjk hjr
                  · have : j = k := by omega
                    subst this
                    rw [HRK.out] at hjr
                    cases hjr
                    intro e
                    have h1 := HEQ.out
                    rw [HKC.out, e] at h1
                    simp at h1
                case measure => simp [intOf] <;> omega
              · go_upto_region 9 with fail
                go_quiet (fail)
                go_wp2
                go_ret
                exact ⟨false, rfl, fun h => by simp at h, by first | exact HB2.out | exact below_drewN HB2.out _ | exact HB2.out.drew⟩
            · have k1 : ¬ (k : Int) < (i : Int) := by omega
              clear hb2
              go_wp2
              go_roundw
              case rel =>
                refine ⟨i + 1, by omega, by go_num, HB2.out, fun q rq hq hrq => ?_, fun a q ra rq hqa ha hra hrq => ?_⟩
                · by_cases hqi : q < i
                  · exact HOK.out q rq hqi hrq
                  · have : q = i := by omega
                    subst this
                    rw [HR.out] at hrq
                    cases hrq
                    have h1 := HGOOD.out trivial
                    rw [HRC.out] at h1
                    exact h1
                · by_cases hai : a < i
                  · exact HDI.out a q ra rq hqa hai hra hrq
                  · have : a = i := by omega
                    subst this
                    rw [HR.out] at hra
                    cases hra
                    rw [← HRC.out]
                    exact HDIS.out q rq (by omega) hrq
              case measure => simp [intOf] <;> omega
    · have i1 : ¬ (i : Int) < (n : Int) := by omega
      clear hb
      go_wp2
      go_ret
      refine ⟨true, rfl, fun _ => ⟨fun r hr => ?_, fun a k ra rk hka ha hk => ?_⟩, HBW.out⟩
      · obtain ⟨q, hq, rfl⟩ := List.getElem_of_mem hr
        exact HOK.out q _ (by have := HN.out; omega) (List.getElem?_eq_getElem hq)
      · exact HDI.out a k ra rk hka (by have := HN.out; have := (List.getElem?_eq_some_iff.1 ha).1; omega) ha hk
end Go.Proofs.YtbkcmgjmhglghaaGreatDoor
