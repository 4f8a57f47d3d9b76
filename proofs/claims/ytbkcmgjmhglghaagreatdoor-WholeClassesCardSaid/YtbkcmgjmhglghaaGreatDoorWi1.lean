/-
  decide.classes.first.
-/
import Derived.Test.YtbkcmgjmhglghaaGreatDoorWh6
import Derived.Test.YtbkcmgjmhglghaaGreatDoorWh7
import Derived.Test.YtbkcmgjmhglghaaGreatDoorWh9
namespace Go.Proofs.YtbkcmgjmhglghaaGreatDoor
open Go.RowKit

set_option maxRecDepth 100000 in
set_option maxHeartbeats 1600000 in
theorem first1_any (gx gb gw gp : Nat) (lv v1 v2 : Value) (l : List Rel) (wp fp : Pt) (i B : Nat) (w : World) (hgb : w.cell? ⟨gb, 0, none⟩ = some (.pointer (some ⟨gx, 0, none⟩))) (hx : w.heap[gx]? = some (.cells #[lv, v1, v2] 125 (0, 0))) (hgw : w.heap[gw]? = some (.cells #[.int .u64 wp.1, .string wp.2] 133 (0, 0))) (hgp : w.heap[gp]? = some (.cells #[.int .u64 fp.1, .string fp.2] 133 (0, 0))) (hv : IsRels w B lv l) (hB : B ≤ w.heap.size) (h60 : l.length ≤ 60) (hi : i < l.length) (hw1 : wp.1 < 18446744073709551616) (hf1 : fp.1 < 18446744073709551616) :
    Calls Tryz.prog 82 #[.int .i64 i, .pointer (some ⟨gb, 0, none⟩), .pointer (some ⟨gw, 0, none⟩), .pointer (some ⟨gp, 0, none⟩)] w fun e w' => e = .returned (.bool (holdB l wp.1 fp.1 i)) ∧ Below w.heap.size w w' := by
  have hc := choldsC_any gx lv v1 v2 l wp fp i B w hx hv hB h60 hi hw1 hf1
  obtain ⟨a0, a1⟩ := part_cells hgw
  obtain ⟨b0, b1⟩ := part_cells hgp
  obtain ⟨wb, ws⟩ := wp
  obtain ⟨fb, fs⟩ := fp
  simp only at a0 a1 b0 b1 hc ⊢
  have HC := Lib.hid hc
  clear hc hx hgw hgp hv hB hi hw1 hf1
  go_enter Tryz.func82, Tryz.ntmps82
  go_wp2_with (go_at_call 83; refine (HC.out).mono ?_; rintro e w5 ⟨rfl, hb5⟩)
  go_ret
  exact ⟨rfl, hb5⟩
/-- As Tells; all that lies in memory at the call stays. -/
def Tells2 (g : Nat) (lb : Array Value) (f : Nat → Bool) (m : Nat) (w : World) : Prop :=
  ∀ (W : World) (i : Nat), Below w.heap.size w W → i < m → Calls Tryz.prog g (#[.int .i64 i] ++ lb) W fun e w' => e = .returned (.bool (f i)) ∧ Below W.heap.size W w'
theorem Tells2.tells {g : Nat} {lb : Array Value} {f : Nat → Bool} {m : Nat} {w : World} (h : Tells2 g lb f m w) : Tells g lb f m w := fun W i hW hi => (h W i hW hi).mono fun _ _ h => ⟨h.1, hW.trans (h.2.mono hW.size)⟩
theorem Tells2.below {g : Nat} {lb : Array Value} {f : Nat → Bool} {m : Nat} {w w' : World} (h : Tells2 g lb f m w) (hb : Below w.heap.size w w') : Tells2 g lb f m w' := fun W i hW hi => h W i (hb.trans (hW.mono hb.size)) hi
/-- What first asks of its function. -/
def AskT (fg : Nat) (flb : Array Value) (F : (Nat → Bool) → Bool) (m : Nat) (w : World) : Prop :=
  ∀ (W : World) (g : Nat) (lb : Array Value) (T : Nat → Bool), Below w.heap.size w W → (∀ args W, (callFunc g args).run Tryz.prog W = .ok (.enter g args) W) → Tells2 g lb T m W → Calls Tryz.prog fg (#[.func (.func g) #[] lb] ++ flb) W fun e w' => e = .returned (.bool (F T)) ∧ Below W.heap.size W w'
def FirstP (F : (Nat → Bool) → Bool) (l : List Rel) (ws fs : List Pt) (w : World) (e : Ending) (w' : World) : Prop :=
  ∃ s ok, e = .returned (.tuple #[.string s, .bool ok]) ∧ Below w.heap.size w w' ∧ (ok = false → ∀ p ∈ ws, ∀ q ∈ fs, F (holdB l p.1 q.1) = false)
set_option maxRecDepth 100000 in
set_option maxHeartbeats 6400000 in
theorem first_any (gx : Nat) (lv wv fv : Value) (l : List Rel) (ws fs : List Pt) (base B : Nat) (w : World) (hx : w.heap[gx]? = some (.cells #[lv, wv, fv] 125 (0, 0))) (hwv : PartsR w base wv ws) (hfv : PartsR w base fv fs) (hv : IsRels w B lv l) (hB : B ≤ w.heap.size) (h60 : l.length ≤ 60)
    (hwok : ∀ q ∈ ws, q.2.size ≤ 21 ∧ q.1 < 18446744073709551616) (hfok : ∀ q ∈ fs, q.2.size ≤ 6 ∧ q.1 < 18446744073709551616) (hwl : ws.length ≤ 1000) (hfl : fs.length ≤ 10000000)
    (fg : Nat) (flb : Array Value) (ef : ∀ args W, (callFunc fg args).run Tryz.prog W = .ok (.enter fg args) W) (F : (Nat → Bool) → Bool) (hF : AskT fg flb F l.length w) :
    Calls Tryz.prog 52 #[.pointer (some ⟨gx, 0, none⟩), .func (.func fg) #[] flb] w (FirstP F l ws fs w) := by
  obtain ⟨wa, wc, rfl⟩ := slice_form hwv
  obtain ⟨fa, fc, rfl⟩ := slice_form hfv
  obtain ⟨n, hn⟩ : ∃ n, n = ws.length := ⟨_, rfl⟩
  obtain ⟨m, hm⟩ : ∃ m, m = fs.length := ⟨_, rfl⟩
  rw [← hn] at hx hwl
  rw [← hm] at hx hfl
  have HX := Lib.hid hx
  have HWV := Lib.hid hwv
  have HFV := Lib.hid hfv
  have HV := Lib.hid hv
  have HB := Lib.hid hB
  have HWOK := Lib.hid hwok
  have HFOK := Lib.hid hfok
  have HF := Lib.hid hF
  have HN := Lib.hid hn
  have HM := Lib.hid hm
  clear hx hwv hfv hv hB hwok hfok hF hn hm
  go_enter Tryz.func52, Tryz.ntmps52
  go_upto_region 1 with fail
  obtain ⟨w1, hw1⟩ : ∃ w1, w1 = w.alloc (.cells #[.pointer (some ⟨gx, 0, none⟩)] 96) := ⟨_, rfl⟩
  have hb1 : Below w.heap.size w w1 := by rw [hw1]; exact (Below.refl _ _).alloc (Nat.le_refl _) _
  have hg1 : w1.heap[w.heap.size]? = some (.cells #[.pointer (some ⟨gx, 0, none⟩)] 96 (0, 0)) := by rw [hw1]; exact heap_alloc_new w _
  have hs1 : w1.heap.size = w.heap.size + 1 := by rw [hw1]; simp
  rw [← hw1]
  have c1 : w1.cell? ⟨w.heap.size, 0, none⟩ = some (.pointer (some ⟨gx, 0, none⟩)) := by rw [Lib.cell_of_heap hg1]; rfl
  have hx1 := (hb1.block gx (Array.getElem?_eq_some_iff.1 HX.out).1).trans HX.out
  obtain ⟨_, x1, x2, _⟩ := three_cells hx1
  have HB1 := Lib.hid hb1
  have HG1 := Lib.hid hg1
  have HX1 := Lib.hid hx1
  have HS1 := Lib.hid hs1
  clear hw1 hb1 hg1 hx1 hs1
  go_wp2
  go_loopw [6, 7, 18] (fun sv kv iv wr => ∃ (i : Nat) (s : ByteArray) (ok : Bool), i ≤ n ∧ iv = .int .i64 i ∧ sv = .string s ∧ kv = .bool ok ∧ s.size ≤ 28 ∧ Below w1.heap.size w1 wr ∧ (ok = false → ∀ p ∈ ws.take i, ∀ q ∈ fs, F (holdB l p.1 q.1) = false)) (fun _ _ iv _ => n - (intOf iv).toNat)
  case atStart => exact ⟨0, ⟨#[]⟩, false, Nat.zero_le _, rfl, rfl, rfl, by decide, Below.refl _ _, by simp⟩
  case round =>
    obtain ⟨i, s, ok, hi, rfl, rfl, rfl, hs, hb, hok⟩ := hrel
    have i0 : (0 : Int) ≤ (i : Int) := by omega
    have HBW := Lib.hid hb
    have HOK := Lib.hid hok
    by_cases hlt : i < n
    · have i1 : (i : Int) < (n : Int) := by omega
      obtain ⟨p, hp⟩ : ∃ p, ws[i]? = some p := ⟨_, List.getElem?_eq_getElem (by have := HN.out; omega)⟩
      obtain ⟨g, cap', hve, hbg, d0, d1⟩ := HWV.out.at hp
      injection hve with hve1 hve2 hve3
      subst hve1
      have hbw := HB1.out.trans (hb.mono (by have := HS1.out; omega))
      have e0 := (hbw.cell (p := ⟨g, i * 2, none⟩) (World.block_lt_of_cell? w _ d0)).trans d0
      have e1 := (hbw.cell (p := ⟨g, i * 2 + 1, none⟩) (World.block_lt_of_cell? w _ d1)).trans d1
      have hpk := HWOK.out p (List.mem_of_getElem? hp)
      obtain ⟨p1, p2⟩ := p
      simp only at e0 e1 hpk
      have HP := Lib.hid hp
      obtain ⟨w2, hw2⟩ : ∃ w2, w2 = wr.alloc (.cells #[.int .u64 (p1 : Int), .string p2] 133) := ⟨_, rfl⟩
      have hb2 : Below wr.heap.size wr w2 := by rw [hw2]; exact (Below.refl _ _).alloc (Nat.le_refl _) _
      have hg2 : w2.heap[wr.heap.size]? = some (.cells #[.int .u64 (p1 : Int), .string p2] 133 (0, 0)) := by rw [hw2]; exact heap_alloc_new wr _
      have hb12 : Below w1.heap.size w1 w2 := hb.trans (hb2.mono hb.size)
      have y1 := (hb12.cell (p := ⟨w.heap.size, 0, none⟩) (World.block_lt_of_cell? w1 _ c1)).trans c1
      have y2 := (hb12.cell (p := ⟨gx, 2, none⟩) (World.block_lt_of_cell? w1 _ x2)).trans x2
      obtain ⟨wr0, hwr0⟩ : ∃ wr0, wr0 = wr.heap.size := ⟨_, rfl⟩
      rw [← hwr0] at hg2
      have HB12 := Lib.hid hb12
      have HG2 := Lib.hid hg2
      have HPK := Lib.hid hpk
      have hp2s := hpk.1
      clear hp hbw d0 d1 hve2 hve3 hb hok hb2 hg2 hb12 hpk
      go_upto_region 5 with fail
      rw [← hw2, ← hwr0]
      clear hw2 hwr0 e0 e1
      go_wp2
      go_loopw [6, 7, 27] (fun sv kv jv wq => ∃ (j : Nat) (s : ByteArray) (ok : Bool), j ≤ m ∧ jv = .int .i64 j ∧ sv = .string s ∧ kv = .bool ok ∧ s.size ≤ 28 ∧ Below w2.heap.size w2 wq ∧ (ok = false → (∀ p ∈ ws.take i, ∀ q ∈ fs, F (holdB l p.1 q.1) = false) ∧ ∀ q ∈ fs.take j, F (holdB l p1 q.1) = false)) (fun _ _ jv _ => m - (intOf jv).toNat)
      case atStart => exact ⟨0, s, ok, Nat.zero_le _, rfl, rfl, rfl, hs, Below.refl _ _, fun h => ⟨HOK.out h, by simp⟩⟩
      case round =>
        obtain ⟨j, s2, ok2, hj, rfl, rfl, rfl, hs2, hbq, hok2⟩ := hrel
        have jz : (0 : Int) ≤ (j : Int) := by omega
        have HBQ := Lib.hid hbq
        have HOK2 := Lib.hid hok2
        by_cases hjl : j < m
        · have j1 : (j : Int) < (m : Int) := by omega
          obtain ⟨q, hq⟩ : ∃ q, fs[j]? = some q := ⟨_, List.getElem?_eq_getElem (by have := HM.out; omega)⟩
          obtain ⟨g', cap'', hve, hbg', d0, d1⟩ := HFV.out.at hq
          injection hve with hve1 hve2 hve3
          subst hve1
          have hbw := HB1.out.trans ((HB12.out.trans (hbq.mono HB12.out.size)).mono (by have := HS1.out; omega))
          have e0 := (hbw.cell (p := ⟨g', j * 2, none⟩) (World.block_lt_of_cell? w _ d0)).trans d0
          have e1 := (hbw.cell (p := ⟨g', j * 2 + 1, none⟩) (World.block_lt_of_cell? w _ d1)).trans d1
          have hqk := HFOK.out q (List.mem_of_getElem? hq)
          obtain ⟨q1, q2⟩ := q
          simp only at e0 e1 hqk
          have HQ := Lib.hid hq
          obtain ⟨w3, hw3⟩ : ∃ w3, w3 = wr.alloc (.cells #[.int .u64 (q1 : Int), .string q2] 133) := ⟨_, rfl⟩
          have hb3 : Below wr.heap.size wr w3 := by rw [hw3]; exact (Below.refl _ _).alloc (Nat.le_refl _) _
          have hg3 : w3.heap[wr.heap.size]? = some (.cells #[.int .u64 (q1 : Int), .string q2] 133 (0, 0)) := by rw [hw3]; exact heap_alloc_new wr _
          obtain ⟨r1, hr1⟩ : ∃ r1, r1 = wr.heap.size := ⟨_, rfl⟩
          rw [← hr1] at hg3
          have hb23 : Below w2.heap.size w2 w3 := hbq.trans (hb3.mono hbq.size)
          have hg23 := (hb23.block wr0 (Array.getElem?_eq_some_iff.1 HG2.out).1).trans HG2.out
          have hb13 := HB12.out.trans (hb23.mono HB12.out.size)
          have hbx := HB1.out.trans (hb13.mono (by have := HS1.out; omega))
          have hx3 := (hb13.block gx (Array.getElem?_eq_some_iff.1 HX1.out).1).trans HX1.out
          have hc3 := (hb13.cell (p := ⟨w.heap.size, 0, none⟩) (World.block_lt_of_cell? w1 _ c1)).trans c1
          obtain ⟨m0, m1⟩ := part_cells hg23
          obtain ⟨n0, n1⟩ := part_cells hg3
          have htell : ∀ W5, Below w3.heap.size w3 W5 → Tells2 82 #[.pointer (some ⟨w.heap.size, 0, none⟩), .pointer (some ⟨wr0, 0, none⟩), .pointer (some ⟨r1, 0, none⟩)] (holdB l p1 q1) l.length W5 := fun W5 h5 W k hW hk => by
            have hb := h5.trans (hW.mono h5.size)
            exact (first1_any gx w.heap.size wr0 r1 lv _ _ l (p1, p2) (q1, q2) k B W ((hb.cell (p := ⟨w.heap.size, 0, none⟩) (World.block_lt_of_cell? w3 _ hc3)).trans hc3) ((hb.block gx (Array.getElem?_eq_some_iff.1 hx3).1).trans hx3) ((hb.block wr0 (Array.getElem?_eq_some_iff.1 hg23).1).trans hg23) ((hb.block r1 (Array.getElem?_eq_some_iff.1 hg3).1).trans hg3) (HV.out.below ((hbx.mono HB.out).trans (hb.mono (Nat.le_trans HB.out hbx.size)))) (Nat.le_trans HB.out (Nat.le_trans hbx.size hb.size)) h60 hk HPK.out.2 hqk.2)
          have HTELL := Lib.hid htell
          have HB23 := Lib.hid hb23
          have HBX := Lib.hid hbx
          have hq2s := hqk.1
          obtain ⟨FT, hFT⟩ : ∃ FT, FT = F (holdB l p1 q1) := ⟨_, rfl⟩
          have htk : fs.take (j + 1) = fs.take j ++ [(q1, q2)] := by rw [List.take_add_one, hq]; rfl
          have HTK := Lib.hid htk
          have HFT := Lib.hid hFT
          clear hq hve2 hve3 d0 d1 hbw hbq hok2 hb3 hg3 hb23 hg23 hb13 hbx hx3 hc3 htell hqk hFT htk
          go_upto_region 8 with fail
          rw [← hw3, ← hr1]
          clear hw3 hr1 e0 e1
          have he0 : (⟨#[]⟩ : ByteArray).toList = [] := by kernel_rfl
          obtain ⟨E, hE⟩ : ∃ E, E = (q2.toList == []) := ⟨_, rfl⟩
          have hE' := hE.symm
          have h46 : (⟨#[46]⟩ : ByteArray).size = 1 := rfl
          have z1 : (⟨#[46]⟩ ++ q2 : ByteArray).size = 1 + q2.size := by rw [ByteArray.size_append, h46]
          have z2 : (p2 ++ (⟨#[46]⟩ ++ q2 : ByteArray)).size = p2.size + (1 + q2.size) := by rw [ByteArray.size_append, z1]
          have ad1 := fun W => run_string_add_sum (P := Tryz.prog) W ⟨#[46]⟩ q2 (by omega)
          have ad2 := fun W => run_string_add_sum (P := Tryz.prog) W p2 (⟨#[46]⟩ ++ q2) (by omega)
          obtain ⟨S2, hS2⟩ : ∃ S2 : ByteArray, S2 = p2 ++ (⟨#[46]⟩ ++ q2) := ⟨_, rfl⟩
          have HS2 := Lib.hid (show S2.size ≤ 28 by rw [hS2, z2]; omega)
          rw [← hS2] at ad2
          clear hS2 z1 z2 h46 hE
          go_upto_if 35 with fail
          go_cut [12] (fun tv wx => ∃ S : ByteArray, tv = .string S ∧ S.size ≤ 28 ∧ w3 = wx)
          case first =>
            cases E
            · go_wp2
              go_meet
              exact ⟨S2, rfl, HS2.out, rfl⟩
            · go_wp2
              go_meet
              exact ⟨p2, rfl, by omega, rfl⟩
          case rest =>
            clear ad1 ad2 hE'
            obtain ⟨S, rfl, hS, rfl⟩ := hcut
            have hfin1 : ∀ W5, Below w3.heap.size w3 W5 → Calls Tryz.prog fg (#[.func (.func 82) #[] #[.pointer (some ⟨w.heap.size, 0, none⟩), .pointer (some ⟨wr0, 0, none⟩), .pointer (some ⟨r1, 0, none⟩)]] ++ flb) W5 fun e w' => e = .returned (.bool FT) ∧ Below W5.heap.size W5 w' := fun W5 h5 => by
              have h1 := HF.out W5 82 #[.pointer (some ⟨w.heap.size, 0, none⟩), .pointer (some ⟨wr0, 0, none⟩), .pointer (some ⟨r1, 0, none⟩)] (holdB l p1 q1) (HBX.out.trans (h5.mono HBX.out.size)) (fun _ _ => by kernel_rfl) (HTELL.out W5 h5)
              rw [← HFT.out] at h1
              exact h1
            have HFIN := Lib.hid hfin1
            clear hfin1 m0 m1 n0 n1 y1 y2
            cases ok2
            · cases FT
              · go_wp2_with (go_at_fn fg; refine (HFIN.out _ (Below.refl _ _)).mono ?_; rintro e w6 ⟨rfl, hb6⟩; have HB6 := Lib.hid hb6; clear hb6)
                go_roundw
                case rel =>
                  refine ⟨j + 1, s2, false, by omega, by go_num, rfl, rfl, hs2, HB23.out.trans (HB6.out.mono HB23.out.size), fun _ => ?_⟩
                  obtain ⟨h1, h2⟩ := HOK2.out trivial
                  refine ⟨h1, fun q hq => ?_⟩
                  rw [HTK.out] at hq
                  rcases List.mem_append.1 hq with hq | hq
                  · exact h2 q hq
                  · simp at hq
                    subst hq
                    exact HFT.out.symm
                case measure => simp [intOf] <;> omega
              · go_wp2_with (go_at_fn fg; refine (HFIN.out _ (Below.refl _ _)).mono ?_; rintro e w6 ⟨rfl, hb6⟩; have HB6 := Lib.hid hb6; clear hb6)
                go_roundw
                case rel => exact ⟨j + 1, S, true, by omega, by go_num, rfl, rfl, hS, HB23.out.trans (HB6.out.mono HB23.out.size), fun h => by simp at h⟩
                case measure => simp [intOf] <;> omega
            · cases FT
              all_goals
                go_wp2_with (first
                  | (go_at_call 81; refine (before_any _ _ _ (by omega)).mono ?_; rintro e w5 ⟨⟨v, rfl⟩, hb5⟩; have HB5 := Lib.hid hb5; clear hb5; cases v)
                  | (go_at_fn fg; refine (HFIN.out _ HB5.out).mono ?_; rintro e w6 ⟨rfl, hb6⟩; have HB6 := Lib.hid (HB5.out.trans (hb6.mono HB5.out.size)); clear hb6))
              all_goals
                go_roundw
                case rel => exact ⟨j + 1, _, true, by omega, by go_num, rfl, rfl, by first | exact hs2 | exact hS, by first | exact HB23.out.trans (HB6.out.mono HB23.out.size) | exact HB23.out.trans (HB5.out.mono HB23.out.size), fun h => by simp at h⟩
                case measure => simp [intOf] <;> omega
        · have j1 : ¬ (j : Int) < (m : Int) := by omega
          have hjm : j = m := by omega
          subst hjm
          clear hbq hok2
          go_wp2
          go_roundw
          case rel =>
            refine ⟨i + 1, s2, ok2, by omega, by go_num, rfl, rfl, hs2, HB12.out.trans (HBQ.out.mono HB12.out.size), fun h p hp q hq => ?_⟩
            obtain ⟨h1, h2⟩ := HOK2.out h
            rw [List.take_add_one, HP.out] at hp
            rcases List.mem_append.1 hp with hp | hp
            · exact h1 p hp q hq
            · simp at hp
              subst hp
              exact h2 q (by rw [List.take_of_length_le (by have := HM.out; omega)]; exact hq)
          case measure => simp [intOf] <;> omega
    · have i1 : ¬ (i : Int) < (n : Int) := by omega
      clear hb hok
      go_wp2
      go_ret2
      refine ⟨_, _, rfl, HB1.out.trans (HBW.out.mono (by have := HS1.out; omega)), fun h p hp q hq => HOK.out h p (by rw [List.take_of_length_le (by have := HN.out; omega)]; exact hp) q hq⟩
end Go.Proofs.YtbkcmgjmhglghaaGreatDoor
