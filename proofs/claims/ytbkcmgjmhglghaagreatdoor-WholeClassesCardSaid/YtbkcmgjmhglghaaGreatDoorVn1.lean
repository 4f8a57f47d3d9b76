/-
  calqueref08.Few, calqueref14.Few, told where they answer true; calqueref14.has, calqueref12.Classes, calqueref10.all, most.
-/
import Derived.Test.YtbkcmgjmhglghaaGreatDoorWl2
import Derived.Test.YtbkcmgjmhglghaaGreatDoorWf3
namespace Go.Proofs.YtbkcmgjmhglghaaGreatDoor
open Go.RowKit

/-- A Bool that tells P where it is true. -/
def TellsB (P : Prop) (w : World) (e : Ending) (w' : World) : Prop := ∃ b, e = .returned (.bool b) ∧ (b = true → P) ∧ Below w.heap.size w w'
/-- What calqueref08.Few tells where it answers true: its sum may wrap, but not where no relation has more than 4 spans. -/
def FewT (c : Cnd) : Prop := (∀ l ∈ c, ∀ r ∈ l, r.sp.length ≤ 4) → total c ≤ 80
theorem total_take {c : Cnd} {i : Nat} {l : List Rel} (h : c[i]? = some l) : total (c.take (i + 1)) = total (c.take i) + l.length := by
  unfold total
  rw [List.take_add_one, h]
  simp
set_option maxRecDepth 100000 in
set_option maxHeartbeats 3200000 in
theorem few8_any (v : Value) (c : Cnd) (B : Nat) (w : World) (hv : IsCond w B v c) (hB : B ≤ w.heap.size) (hs : c.length ≤ 140737488351232) (hl : ∀ l ∈ c, l.length ≤ 140737488351232) :
    Calls Tryz.prog 16 #[v] w (TellsB (c.length ≤ 30 ∧ FewT c) w) := by
  obtain ⟨ao, cap, rfl, hcl⟩ := hv
  obtain ⟨n, hn⟩ : ∃ n, n = c.length := ⟨_, rfl⟩
  rw [← hn] at hcl hs
  rw [← hn]
  have HC := Lib.hid hcl
  have HN := Lib.hid hn
  have HL := Lib.hid hl
  have HCB := Lib.hid hB
  clear hcl hn hl hB
  go_enter Tryz.func16, Tryz.ntmps16
  go_wp2
  go_loopw [3, 4] (fun tv iv wr => ∃ (i : Nat) (t : Int), i ≤ n ∧ iv = .int .i64 i ∧ tv = .int .i64 t ∧ wr = w ∧ ((∀ l ∈ c, ∀ r ∈ l, r.sp.length ≤ 4) → ∃ q : Nat, t = q ∧ total (c.take i) ≤ q ∧ q ≤ 80)) (fun _ iv _ => n - (intOf iv).toNat)
  case atStart => exact ⟨0, 0, Nat.zero_le _, rfl, rfl, rfl, fun _ => ⟨0, rfl, by simp [total], by omega⟩⟩
  case round =>
    obtain ⟨i, t, hi, rfl, rfl, hwr, hex⟩ := hrel
    subst hwr
    have HEX := Lib.hid hex
    clear hex
    have i0 : (0 : Int) ≤ (i : Int) := by omega
    by_cases hlt : i < n
    · have i1 : (i : Int) < (n : Int) := by omega
      obtain ⟨l, hx'⟩ : ∃ l, c[i]? = some l := ⟨_, List.getElem?_eq_getElem (by have := HN.out; omega)⟩
      obtain ⟨b, o, rfl, hbB, hcl⟩ := HC.out (by omega)
      obtain ⟨rv', d0, hrv⟩ := hcl i l hx'
      have hll := HL.out l (List.mem_of_getElem? hx')
      obtain ⟨ao2, cap2, rfl, hq⟩ := hrv
      obtain ⟨m, hm⟩ : ∃ m, m = l.length := ⟨_, rfl⟩
      rw [← hm] at d0 hq hll
      have HQ := Lib.hid hq
      have HM := Lib.hid hm
      have htk := total_take hx'
      have HTK := Lib.hid htk
      have HX := Lib.hid hx'
      clear hcl hx' hq hm htk
      go_wp2
      go_loopw [3, 5] (fun tv kv wr2 => ∃ (k : Nat) (t : Int), k ≤ m ∧ kv = .int .i64 k ∧ tv = .int .i64 t ∧ wr2 = wr ∧ ((∀ l ∈ c, ∀ r ∈ l, r.sp.length ≤ 4) → ∃ q : Nat, t = q ∧ total (c.take i) + k ≤ q ∧ q ≤ 80 + 5 * k)) (fun _ kv _ => m - (intOf kv).toNat)
      case atStart => exact ⟨0, t, Nat.zero_le _, rfl, rfl, rfl, fun hp => by obtain ⟨q, h1, h2, h3⟩ := HEX.out hp; exact ⟨q, h1, by omega, by omega⟩⟩
      case round =>
        obtain ⟨k, t2, hk, rfl, rfl, hwr2, hex2⟩ := hrel
        subst hwr2
        have HEX2 := Lib.hid hex2
        clear hex2
        have k0 : (0 : Int) ≤ (k : Int) := by omega
        by_cases hkm : k < m
        · have k1 : (k : Int) < (m : Int) := by omega
          obtain ⟨r, hr⟩ : ∃ r, l[k]? = some r := ⟨_, List.getElem?_eq_getElem (by have := HM.out; omega)⟩
          obtain ⟨b2, o2, rfl, hb2, hq2⟩ := HQ.out (by omega)
          obtain ⟨q0, q1, q2, sv, q3, hsp⟩ := hq2 k r hr
          obtain ⟨aS, cS, rfl, _⟩ := hsp
          obtain ⟨ms, hms⟩ : ∃ ms, ms = r.sp.length := ⟨_, rfl⟩
          rw [← hms] at q3
          have HR := Lib.hid hr
          have HMS := Lib.hid hms
          clear hq2 hr hms
          go_wp2
          go_roundw
          case rel =>
            refine ⟨k + 1, _, by omega, by go_num, rfl, trivial, fun hp => ?_⟩
            obtain ⟨q, h1, h2, h3⟩ := HEX2.out hp
            have h4 : ms ≤ 4 := by rw [HMS.out]; exact hp l (List.mem_of_getElem? HX.out) r (List.mem_of_getElem? HR.out)
            have h5 : m ≤ 140737488351232 := hll
            exact ⟨q + 1 + ms, by rw [h1, wrap_id (x := 1 + (ms : Int)) (by omega) (by omega), wrap_id (by omega) (by omega)]; omega, by omega, by omega⟩
          case measure => simp [intOf] <;> omega
        · have k1 : ¬ (k : Int) < (m : Int) := by omega
          by_cases h80 : 80 < t2
          · go_wp2
            go_ret
            exact ⟨false, rfl, fun h => by simp at h, Below.refl _ _⟩
          · go_wp2
            go_roundw
            case rel =>
              refine ⟨i + 1, t2, by omega, by go_num, rfl, trivial, fun hp => ?_⟩
              obtain ⟨q, h1, h2, h3⟩ := HEX2.out hp
              have h4 : k = m := by omega
              exact ⟨q, h1, by rw [HTK.out, ← HM.out]; omega, by omega⟩
            case measure => simp [intOf] <;> omega
    · have i1 : ¬ (i : Int) < (n : Int) := by omega
      by_cases h30 : n ≤ 30
      · have j1 : (n : Int) ≤ 30 := by omega
        go_wp2
        go_ret
        have hf : FewT c := fun hp => by
          obtain ⟨q, h1, h2, h3⟩ := HEX.out hp
          rw [List.take_of_length_le (by have := HN.out; omega)] at h2
          omega
        exact ⟨true, rfl, fun _ => by first | exact ⟨h30, hf⟩ | exact hf, Below.refl _ _⟩
      · have j1 : ¬ (n : Int) ≤ 30 := by omega
        go_wp2
        go_ret
        exact ⟨false, rfl, fun h => by simp at h, Below.refl _ _⟩
/-- What Few looks at is not too long. -/
def Tame (c : Cnd) : Prop := c.length ≤ 140737488351232 ∧ (∀ l ∈ c, l.length ≤ 140737488351232) ∧ ∀ r ∈ c.flatten, r.sp.length ≤ 140737488351232
set_option maxRecDepth 100000 in
set_option maxHeartbeats 1600000 in
theorem few14_any (v : Value) (l : List Rul) (B : Nat) (w : World) (hv : IsRules w B v l) (hB : B ≤ w.heap.size) (ht : ∀ r ∈ l, Tame r.cond) (hl : l.length ≤ 140737488351232) :
    Calls Tryz.prog 5 #[v] w (TellsB (l.length ≤ 10 ∧ ∀ r ∈ l, FewT r.cond) w) := by
  obtain ⟨ao, cap, cvs, rfl, hcv, hq⟩ := rulesAt hv
  obtain ⟨n, hn⟩ : ∃ n, n = l.length := ⟨_, rfl⟩
  rw [← hn] at hq hl
  rw [← hn]
  have HCV := Lib.hid hcv
  have HQ := Lib.hid hq
  have HN := Lib.hid hn
  have HT := Lib.hid ht
  have HB := Lib.hid hB
  clear hv hcv hq hn ht hB
  go_enter Tryz.func5, Tryz.ntmps5
  go_wp2
  go_loopw [3] (fun iv wr => ∃ i : Nat, i ≤ n ∧ iv = .int .i64 i ∧ Below w.heap.size w wr ∧ ∀ k r, k < i → l[k]? = some r → FewT r.cond) (fun iv _ => n - (intOf iv).toNat)
  case atStart => exact ⟨0, Nat.zero_le _, rfl, Below.refl _ _, fun k r h => by omega⟩
  case round =>
    obtain ⟨i, hi, rfl, hb, hfw⟩ := hrel
    have HFW := Lib.hid hfw
    clear hfw
    have i0 : (0 : Int) ≤ (i : Int) := by omega
    have HBW := Lib.hid hb
    by_cases hlt : i < n
    · have i1 : (i : Int) < (n : Int) := by omega
      obtain ⟨r, hr⟩ : ∃ r, l[i]? = some r := ⟨_, List.getElem?_eq_getElem (by have := HN.out; omega)⟩
      obtain ⟨b, o, rfl, hbB, hqq⟩ := HQ.out (by omega)
      have a1 := (hb.cell (p := ⟨b, o + i * 2 + 1, none⟩) (by show b < w.heap.size; have := HB.out; omega)).trans (hqq i r hr).2
      have hcvi := HCV.out i r hr
      have htr := HT.out r (List.mem_of_getElem? hr)
      have hf := few8_any (cvs i) r.cond B wr (hcvi.below (hb.mono HB.out)) (Nat.le_trans HB.out hb.size) htr.1 htr.2.1
      obtain ⟨ca, cp, hcve, _⟩ := hcvi
      obtain ⟨m, hm⟩ : ∃ m, m = r.cond.length := ⟨_, rfl⟩
      rw [← hm] at hcve
      rw [hcve] at a1 hf
      have HF := Lib.hid hf
      have HR := Lib.hid hr
      clear hr hqq htr hf hcve hm hb hbB
      go_wp2_with (go_at_call 16; refine (HF.out).mono ?_; rintro e w5 ⟨b5, rfl, hf5, hb5⟩; have HB5 := Lib.hid (HBW.out.trans (hb5.mono HBW.out.size)); have HF5 := Lib.hid hf5; clear hb5 hf5; cases b5)
      · go_ret
        exact ⟨false, rfl, fun h => by simp at h, HB5.out⟩
      · go_roundw
        case rel =>
          refine ⟨i + 1, by omega, by go_num, HB5.out, fun k r' hk hr' => ?_⟩
          by_cases hki : k < i
          · exact HFW.out k r' hki hr'
          · have : k = i := by omega
            subst this
            rw [HR.out] at hr'
            cases hr'
            exact (HF5.out trivial).2
        case measure => simp [intOf] <;> omega
    · have i1 : ¬ (i : Int) < (n : Int) := by omega
      clear hb
      by_cases h10 : n ≤ 10
      · have j1 : (n : Int) ≤ 10 := by omega
        go_wp2
        go_ret
        have hf : ∀ r ∈ l, FewT r.cond := fun r hr => by
          obtain ⟨q, hq, rfl⟩ := List.getElem_of_mem hr
          exact HFW.out q _ (by have := HN.out; omega) (List.getElem?_eq_getElem hq)
        exact ⟨true, rfl, fun _ => by first | exact ⟨h10, hf⟩ | exact hf, HBW.out⟩
      · have j1 : ¬ (n : Int) ≤ 10 := by omega
        go_wp2
        go_ret
        exact ⟨false, rfl, fun h => by simp at h, HBW.out⟩
set_option maxRecDepth 100000 in
theorem classes12_any (w : World) : Calls Tryz.prog 18 #[] w fun e w' => e = .returned (.slice (some ⟨w.heap.size, 0, none⟩) 5 5) ∧ (∀ j, j < 5 → w'.cell? ⟨w.heap.size, j, none⟩ = some (.string (clsNames.getD j ByteArray.empty))) ∧ Below w.heap.size w w' := by
  have hg := heap_alloc_new w (.cells #[.string ⟨#[122, 101, 114, 111]⟩, .string ⟨#[111, 110, 101]⟩, .string ⟨#[116, 119, 111]⟩, .string ⟨#[102, 101, 119]⟩, .string ⟨#[109, 97, 110, 121]⟩] 9)
  have HG := Lib.hid hg
  clear hg
  go_enter Tryz.func18, Tryz.ntmps18
  go_wp2
  refine bodyPost_ret (results_tmp rfl _ _ _) rfl ?_
  refine ⟨rfl, fun j hj => ?_, (Below.refl _ _).alloc (Nat.le_refl _) _⟩
  rcases (show j = 0 ∨ j = 1 ∨ j = 2 ∨ j = 3 ∨ j = 4 by omega) with rfl | rfl | rfl | rfl | rfl <;> (rw [Lib.cell_of_heap HG.out]; rfl)
set_option maxRecDepth 100000 in
set_option maxHeartbeats 1600000 in
theorem has14_any (g : Nat) (s : ByteArray) (w : World) (hg : ∀ j, j < 5 → w.cell? ⟨g, j, none⟩ = some (.string (clsNames.getD j ByteArray.empty))) :
    Calls Tryz.prog 17 #[.slice (some ⟨g, 0, none⟩) 5 5, .string s] w (TellsB (s ∈ clsNames) w) := by
  have HG := Lib.hid hg
  clear hg
  go_enter Tryz.func17, Tryz.ntmps17
  go_wp2
  go_loopw [5] (fun iv wr => ∃ i : Nat, i ≤ 5 ∧ iv = .int .i64 i ∧ Below w.heap.size w wr) (fun iv _ => 5 - (intOf iv).toNat)
  case atStart => exact ⟨0, by omega, rfl, Below.refl _ _⟩
  case round =>
    obtain ⟨i, hi, rfl, hb⟩ := hrel
    have HBW := Lib.hid hb
    have i0 : (0 : Int) ≤ (i : Int) := by omega
    by_cases hlt : i < 5
    · have i1 : (i : Int) < 5 := by omega
      have c0 := (hb.cell (p := ⟨g, i, none⟩) (World.block_lt_of_cell? w _ (HG.out i hlt))).trans (HG.out i hlt)
      obtain ⟨z, hz⟩ : ∃ z, z = clsNames.getD i ByteArray.empty := ⟨_, rfl⟩
      rw [← hz] at c0
      have HZ := Lib.hid hz
      clear hz hb
      by_cases he : z = s
      · subst he
        go_wp2
        go_ret
        refine ⟨true, rfl, fun _ => ?_, HBW.out⟩
        rw [HZ.out, List.getD_eq_getElem?_getD, List.getElem?_eq_getElem (show i < clsNames.length from hlt)]
        exact List.getElem_mem _
      · have hne := ba_ne he
        go_wp2
        go_roundw
        case rel => exact ⟨i + 1, by omega, by go_num, HBW.out⟩
        case measure => simp [intOf] <;> omega
    · have i1 : ¬ (i : Int) < 5 := by omega
      clear hb
      go_wp2
      go_ret
      exact ⟨false, rfl, fun h => by simp at h, HBW.out⟩
end Go.Proofs.YtbkcmgjmhglghaaGreatDoor
