/-
  automaton.symbol, Valid, Run.
-/
import Derived.Test.YtbkcmgjmhglghaaGreatDoorWd1
namespace Go.Proofs.YtbkcmgjmhglghaaGreatDoor
open Go.RowKit

def symN (c : Nat) : Nat := if c = 10 then 46 else 48 + c
def symB (c : Nat) : UInt8 := UInt8.ofNat (symN c)
theorem symB_nat {c : Nat} (h : c < 11) : (symB c).toNat = symN c := by
  unfold symB
  rw [UInt8.toNat_ofNat']
  unfold symN
  split <;> omega
/-- The string of symbols. -/
def numS (u : List Nat) : ByteArray := ⟨(u.map symB).toArray⟩
theorem numS_size (u : List Nat) : (numS u).size = u.length := by
  show (u.map symB).toArray.size = _
  simp
theorem numS_get (u : List Nat) {k : Nat} (h : k < (numS u).size) (h' : k < u.length) : (numS u)[k]'h = symB (u[k]) := by
  have e : (numS u)[k]'h = (u.map symB)[k]'(by simpa using h') := rfl
  rw [e, List.getElem_map]
theorem symbol_any (c : Nat) (hc : c < 11) (w : World) : Calls Tryz.prog 37 #[.int .u8 (symN c : Nat)] w fun e w' => e = .returned (.tuple #[.int .i64 c, .bool true]) ∧ w = w' := by
  rcases (show c = 0 ∨ c = 1 ∨ c = 2 ∨ c = 3 ∨ c = 4 ∨ c = 5 ∨ c = 6 ∨ c = 7 ∨ c = 8 ∨ c = 9 ∨ c = 10 by omega) with rfl | rfl | rfl | rfl | rfl | rfl | rfl | rfl | rfl | rfl | rfl
  all_goals
    simp only [symN]
    go_enter Tryz.func37, Tryz.ntmps37
    go_wp2
    go_ret2
    exact ⟨rfl, rfl⟩
set_option maxRecDepth 100000 in
set_option maxHeartbeats 1600000 in
theorem avalid_any (next : List (List Nat)) (ac : List Bool) (nv av : Value) (B : Nat) (w : World) (hnv : IsRowsV w B nv next) (hav : IsBools w B av ac) (hB : B ≤ w.heap.size) (hl : ac.length = next.length) (h1 : 1 ≤ next.length) (h2 : next.length ≤ 2000)
    (hlt : ∀ i c, i < next.length → c < 11 → nx next i c < next.length) :
    Calls Tryz.prog 36 #[.agg #[.int .i64 0, nv, av]] w fun e w' => e = .returned (.bool true) ∧ Below w.heap.size w w' := by
  obtain ⟨ao, cap, rfl, hnc⟩ := hnv
  obtain ⟨ao2, cap2, rfl, _⟩ := hav
  obtain ⟨b, o, rfl, hbB, hcc⟩ := hnc (by omega)
  obtain ⟨n, hn⟩ : ∃ n, n = next.length := ⟨_, rfl⟩
  rw [hl]
  rw [← hn] at h1 h2 hlt
  rw [← hn]
  have HCC := Lib.hid hcc
  have HLT := Lib.hid hlt
  have HN := Lib.hid hn
  have g1 : ¬ (n : Int) < 1 := by omega
  have g2 : ¬ 2000 < (n : Int) := by omega
  have g3 : (0 : Int) < (n : Int) := by omega
  have g1b : decide ((n : Int) < 1) = false := decide_eq_false g1
  have g2b : decide (2000 < (n : Int)) = false := decide_eq_false g2
  have g3b : ((n : Int) != (n : Int)) = false := by simp
  have g4b : decide ((n : Int) ≤ 0) = false := decide_eq_false (by omega)
  clear hnc hcc hlt hn hl
  go_enter Tryz.func36, Tryz.ntmps36
  go_upto_region 2 with fail
  obtain ⟨w1, hw1⟩ : ∃ w1, w1 = w.alloc (.cells #[.int .i64 0, .slice (some ⟨b, o, none⟩) n cap, .slice ao2 n cap2] 40) := ⟨_, rfl⟩
  have hbx : w1.heap[w.heap.size]? = some (.cells #[.int .i64 0, .slice (some ⟨b, o, none⟩) n cap, .slice ao2 n cap2] 40 (0, 0)) := by rw [hw1]; exact heap_alloc_new w _
  have hb1 : Below w.heap.size w w1 := by rw [hw1]; exact (Below.refl _ _).alloc (Nat.le_refl _) _
  rw [← hw1]
  clear hw1
  obtain ⟨t0, t1, t2, _, _, _⟩ := three_cells hbx
  have HB1 := Lib.hid hb1
  clear hbx hb1
  go_wp2
  go_loopw [38] (fun iv wr => ∃ i : Nat, i ≤ n ∧ iv = .int .i64 i ∧ w1 = wr) (fun iv _ => n - (intOf iv).toNat)
  case atStart => exact ⟨0, Nat.zero_le _, rfl, rfl⟩
  case round =>
    obtain ⟨i, hi, rfl, rfl⟩ := hrel
    have i0 : (0 : Int) ≤ (i : Int) := by omega
    by_cases hil : i < n
    · have i1 : (i : Int) < (n : Int) := by omega
      obtain ⟨rb, q1, q2, q3⟩ := HCC.out i _ (List.getElem?_eq_getElem (by have := HN.out; omega))
      have q2' := (HB1.out.cell (p := ⟨b, o + i, none⟩) (by show b < w.heap.size; omega)).trans q2
      have q3' : ∀ c, c < 11 → w1.cell? ⟨rb, c, none⟩ = some (.int .i64 (nx next i c : Nat)) := fun c hc => by
        have h := q3 c hc
        have e : (next[i]'(by have := HN.out; omega)).getD c 0 = nx next i c := by
          unfold nx
          rw [List.getD_eq_getElem?_getD (l := next), List.getElem?_eq_getElem (by have := HN.out; omega)]
          rfl
        rw [e] at h
        exact (HB1.out.cell (p := ⟨rb, c, none⟩) (by show rb < w.heap.size; omega)).trans h
      have HQ := Lib.hid q3'
      clear q1 q2 q3 q3'
      go_wp2
      go_loopw [47] (fun cv wr => ∃ c : Nat, c ≤ 11 ∧ cv = .int .i64 c ∧ w1 = wr) (fun cv _ => 11 - (intOf cv).toNat)
      case atStart => exact ⟨0, by omega, rfl, rfl⟩
      case round =>
        obtain ⟨c, hc, rfl, rfl⟩ := hrel
        have c0 : (0 : Int) ≤ (c : Int) := by omega
        by_cases hcl : c < 11
        · have c1 : (c : Int) < 11 := by omega
          have x0 := HQ.out c hcl
          have hx := HLT.out i c hil hcl
          obtain ⟨x, hxx⟩ : ∃ x, x = nx next i c := ⟨_, rfl⟩
          rw [← hxx] at x0 hx
          have e1 : decide ((x : Int) < 0) = false := decide_eq_false (by omega)
          have e2 : ¬ n ≤ x := by omega
          have e3 : ¬ (n : Int) ≤ (x : Int) := by omega
          clear hxx hx
          go_wp2
          go_roundw
          case rel => exact ⟨c + 1, by omega, by go_num, by trivial⟩
          case measure => simp [intOf] <;> omega
        · have c1 : ¬ (c : Int) < 11 := by omega
          go_wp2
          go_roundw
          case rel => exact ⟨i + 1, by omega, by go_num, by trivial⟩
          case measure => simp [intOf] <;> omega
    · have i1 : ¬ (i : Int) < (n : Int) := by omega
      go_wp2
      go_ret
      exact ⟨rfl, HB1.out⟩
set_option maxRecDepth 100000 in
set_option maxHeartbeats 1600000 in
theorem run_any (u : List Nat) (next : List (List Nat)) (ac : List Bool) (nv av : Value) (B : Nat) (w : World) (hu : ∀ c ∈ u, c < 11) (hnv : IsRowsV w B nv next) (hav : IsBools w B av ac) (hB : B ≤ w.heap.size) (hl : ac.length = next.length) (h1 : 1 ≤ next.length) (h2 : next.length ≤ 2000)
    (hlt : ∀ i c, i < next.length → c < 11 → nx next i c < next.length) (hul : u.length ≤ 1000) :
    Calls Tryz.prog 11 #[.agg #[.int .i64 0, nv, av], .string (numS u)] w fun e w' => e = .returned (.bool (ac.getD (runT next 0 u) false)) ∧ Below w.heap.size w w' := by
  have hval := fun W (hW : Below w.heap.size w W) => avalid_any next ac nv av B W (hnv.below (hW.mono hB)) (hav.below (hW.mono hB)) (Nat.le_trans hB hW.size) hl h1 h2 hlt
  obtain ⟨ao, cap, rfl, hnc⟩ := hnv
  obtain ⟨ao2, cap2, rfl, hac⟩ := hav
  obtain ⟨b, o, rfl, hbB, hcc⟩ := hnc (by omega)
  obtain ⟨b2, o2, rfl, hbB2, hcc2⟩ := hac (by omega)
  obtain ⟨n, hn⟩ : ∃ n, n = next.length := ⟨_, rfl⟩
  rw [hl] at hval ⊢
  rw [← hn] at h1 h2 hlt hval
  rw [← hn]
  obtain ⟨s, hs⟩ : ∃ s, s = numS u := ⟨_, rfl⟩
  rw [← hs]
  have hsz : s.size = u.length := by rw [hs]; exact numS_size u
  obtain ⟨R, hR⟩ : ∃ R, R = ac.getD (runT next 0 u) false := ⟨_, rfl⟩
  rw [← hR]
  have HVAL := Lib.hid hval
  have HCC := Lib.hid hcc
  have HCC2 := Lib.hid hcc2
  have HLT := Lib.hid hlt
  have HN := Lib.hid hn
  have HS := Lib.hid hs
  have HSZ := Lib.hid hsz
  have HR := Lib.hid hR
  have HU := Lib.hid hu
  have HL := Lib.hid hl
  have hs63 : s.size ≤ 1000 := by omega
  clear hval hnc hcc hac hcc2 hlt hn hl hs hR hu hsz hul
  go_enter Tryz.func11, Tryz.ntmps11
  go_upto_region 1 with fail
  obtain ⟨w1, hw1⟩ : ∃ w1, w1 = w.alloc (.cells #[.int .i64 0, .slice (some ⟨b, o, none⟩) n cap, .slice (some ⟨b2, o2, none⟩) n cap2] 40) := ⟨_, rfl⟩
  have hbx : w1.heap[w.heap.size]? = some (.cells #[.int .i64 0, .slice (some ⟨b, o, none⟩) n cap, .slice (some ⟨b2, o2, none⟩) n cap2] 40 (0, 0)) := by rw [hw1]; exact heap_alloc_new w _
  have hb1 : Below w.heap.size w w1 := by rw [hw1]; exact (Below.refl _ _).alloc (Nat.le_refl _) _
  rw [← hw1]
  clear hw1
  obtain ⟨t0, t1, t2, _, _, _⟩ := three_cells hbx
  have HB1 := Lib.hid hb1
  have HBX := Lib.hid hbx
  clear hbx hb1
  go_wp2_with (go_at_call 36; refine (HVAL.out _ HB1.out).mono ?_; rintro e w5 ⟨rfl, hb5⟩
               have hbx5 := (hb5.block w.heap.size (Array.getElem?_eq_some_iff.1 HBX.out).1).trans HBX.out
               obtain ⟨y0, y1, y2, _, _, _⟩ := three_cells hbx5
               have HB5 := Lib.hid (HB1.out.trans (hb5.mono HB1.out.size))
               have HBX5 := Lib.hid hbx5
               clear hb5 hbx5 t0 t1 t2)
  go_loopw [5, 16] (fun sv iv wr => ∃ (i st : Nat), i ≤ s.size ∧ iv = .int .i64 i ∧ sv = .int .i64 st ∧ st < n ∧ runT next 0 u = runT next st (u.drop i) ∧ w5 = wr) (fun _ iv _ => s.size - (intOf iv).toNat)
  case atStart => exact ⟨0, 0, Nat.zero_le _, rfl, rfl, by omega, by rw [List.drop_zero], rfl⟩
  case round =>
    obtain ⟨i, st, hi, rfl, rfl, hst, hrun, rfl⟩ := hrel
    have i0 : (0 : Int) ≤ (i : Int) := by omega
    have s0 : (0 : Int) ≤ (st : Int) := by omega
    have s1 : (st : Int) < (n : Int) := by omega
    by_cases hil : i < s.size
    · have i1 : (i : Int) < (s.size : Int) := by omega
      have hul : i < u.length := by have := HSZ.out; omega
      have hget : (s[i]'hil).toNat = symN u[i] := by
        have h : ∀ (s' : ByteArray) (e : s' = numS u) (h : i < s'.size), (s'[i]'h).toNat = symN u[i] := by
          rintro s' rfl h
          rw [numS_get u h hul, symB_nat (HU.out _ (List.getElem_mem hul))]
        exact h s HS.out hil
      obtain ⟨c, hc⟩ : ∃ c, c = u[i] := ⟨_, rfl⟩
      rw [← hc] at hget
      have hc11 : c < 11 := by rw [hc]; exact HU.out _ (List.getElem_mem hul)
      rw [List.drop_eq_getElem_cons hul, ← hc] at hrun
      obtain ⟨rb, q1, q2, q3⟩ := HCC.out st _ (List.getElem?_eq_getElem (by have := HN.out; omega))
      have q2' := (HB5.out.cell (p := ⟨b, o + st, none⟩) (by show b < w.heap.size; omega)).trans q2
      have q3' : w5.cell? ⟨rb, c, none⟩ = some (.int .i64 (nx next st c : Nat)) := by
        have h := q3 c hc11
        have e : (next[st]'(by have := HN.out; omega)).getD c 0 = nx next st c := by
          unfold nx
          rw [List.getD_eq_getElem?_getD (l := next), List.getElem?_eq_getElem (by have := HN.out; omega)]
          rfl
        rw [e] at h
        exact (HB5.out.cell (p := ⟨rb, c, none⟩) (by show rb < w.heap.size; omega)).trans h
      have hx := HLT.out st c hst hc11
      have hstep : runT next st (c :: u.drop (i + 1)) = runT next (nx next st c) (u.drop (i + 1)) := rfl
      rw [hstep] at hrun
      obtain ⟨x, hxx⟩ : ∃ x, x = nx next st c := ⟨_, rfl⟩
      rw [← hxx] at q3' hx hrun
      have hsym := fun W => symbol_any c hc11 W
      obtain ⟨y, hy⟩ : ∃ y, y = symN c := ⟨_, rfl⟩
      rw [← hy] at hget hsym
      have c0 : (0 : Int) ≤ (c : Int) := by omega
      have c1 : (c : Int) < 11 := by omega
      have HRUN := Lib.hid hrun
      have HSYM := Lib.hid hsym
      have HX := Lib.hid hx
      clear hc hc11 hul q1 q2 q3 hx hstep hxx hrun hsym hy hst
      go_wp2_with (go_at_call 37; refine (HSYM.out _).mono ?_; rintro e w6 ⟨rfl, rfl⟩)
      go_roundw
      case rel => exact ⟨i + 1, x, by omega, by go_num, rfl, HX.out, HRUN.out, by trivial⟩
      case measure => simp [intOf] <;> omega
    · have i1 : ¬ (i : Int) < (s.size : Int) := by omega
      have hd : u.drop i = [] := List.drop_eq_nil_of_le (by have := HSZ.out; omega)
      rw [hd] at hrun
      have e0 := HCC2.out st _ (List.getElem?_eq_getElem (by have := HL.out; have := HN.out; omega))
      have ev : ac[st]'(by have := HL.out; have := HN.out; omega) = ac.getD st false := by
        rw [List.getD_eq_getElem?_getD, List.getElem?_eq_getElem (by have := HL.out; have := HN.out; omega)]
        rfl
      rw [ev] at e0
      have e1 := (HB5.out.cell (p := ⟨b2, o2 + st, none⟩) (by show b2 < w.heap.size; omega)).trans e0
      have hres : R = ac.getD st false := by rw [HR.out, hrun]; rfl
      have HRES := Lib.hid hres
      clear hd hrun e0 ev hres hst
      go_wp2
      go_ret
      exact ⟨ret_bool HRES.out.symm, HB5.out⟩
end Go.Proofs.YtbkcmgjmhglghaaGreatDoor
