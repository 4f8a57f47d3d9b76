/-
  calqueref07.digits, Zero, Split, Valid; calqueref10.Unsigned.
-/
import Derived.Test.YtbkcmgjmhglghaaGreatDoorVn1
namespace Go.Proofs.YtbkcmgjmhglghaaGreatDoor
open Go.RowKit

def digB (S : ByteArray) : Bool := S.data.toList.all fun b => decide (48 ≤ b.toNat) && decide (b.toNat ≤ 57)
theorem getB (S : ByteArray) (i : Nat) (h : i < S.size) : S.data.toList[i]? = some (S[i]'h) := by
  have h' : i < S.data.toList.length := by simpa using h
  rw [List.getElem?_eq_getElem h']
  rfl
theorem digB_true {S : ByteArray} (h : ∀ i (hi : i < S.size), 48 ≤ (S[i]'hi).toNat ∧ (S[i]'hi).toNat ≤ 57) : digB S = true := by
  unfold digB
  rw [List.all_eq_true]
  intro b hb
  obtain ⟨i, hi, rfl⟩ := List.getElem_of_mem hb
  have hi' : i < S.size := by simpa using hi
  have := h i hi'
  simp only [Bool.and_eq_true, decide_eq_true_eq]
  exact this
theorem digB_false {S : ByteArray} {i : Nat} (hi : i < S.size) (h : (S[i]'hi).toNat < 48 ∨ 57 < (S[i]'hi).toNat) : digB S = false := by
  rw [Bool.eq_false_iff]
  intro hd
  have h1 := List.all_eq_true.1 hd (S[i]'hi) (List.mem_of_getElem? (getB S i hi))
  simp only [Bool.and_eq_true, decide_eq_true_eq] at h1
  omega
set_option maxRecDepth 100000 in
set_option maxHeartbeats 1600000 in
theorem digits7_any (S : ByteArray) (w : World) (hs : S.size ≤ 140737488351232) : Calls Tryz.prog 60 #[.string S] w fun e w' => e = .returned (.bool (digB S)) ∧ Below w.heap.size w w' := by
  obtain ⟨D, hD⟩ : ∃ D, D = digB S := ⟨_, rfl⟩
  rw [← hD]
  have HD := Lib.hid hD
  clear hD
  go_enter Tryz.func60, Tryz.ntmps60
  go_wp2
  go_loopw [3] (fun iv wr => ∃ i : Nat, i ≤ S.size ∧ iv = .int .i64 i ∧ Below w.heap.size w wr ∧ ∀ j (hj : j < S.size), j < i → 48 ≤ (S[j]'hj).toNat ∧ (S[j]'hj).toNat ≤ 57) (fun iv _ => S.size - (intOf iv).toNat)
  case atStart => exact ⟨0, Nat.zero_le _, rfl, Below.refl _ _, fun j _ hj => by omega⟩
  case round =>
    obtain ⟨i, hi, rfl, hb, hall⟩ := hrel
    have HBW := Lib.hid hb
    have HALL := Lib.hid hall
    clear hb hall
    have i0 : (0 : Int) ≤ (i : Int) := by omega
    by_cases hlt : i < S.size
    · have i1 : (i : Int) < (S.size : Int) := by omega
      obtain ⟨x, hx⟩ : ∃ x : Nat, (S[i]'hlt).toNat = x := ⟨_, rfl⟩
      have HX := Lib.hid hx
      by_cases h1 : x < 48
      · have h1' : (x : Int) < 48 := by omega
        go_wp2
        go_ret
        refine ⟨?_, HBW.out⟩
        rw [HD.out, digB_false hlt (.inl (by rw [HX.out]; exact h1))]
        rfl
      · have h1' : ¬ (x : Int) < 48 := by omega
        by_cases h2 : 57 < x
        · have h2' : (57 : Int) < (x : Int) := by omega
          go_wp2
          go_ret
          refine ⟨?_, HBW.out⟩
          rw [HD.out, digB_false hlt (.inr (by rw [HX.out]; exact h2))]
          rfl
        · have h2' : ¬ (57 : Int) < (x : Int) := by omega
          go_wp2
          go_roundw
          case rel =>
            refine ⟨i + 1, by omega, by go_num, HBW.out, fun j hj hji => ?_⟩
            by_cases he : j < i
            · exact HALL.out j hj he
            · have : j = i := by omega
              subst this
              rw [HX.out]
              omega
          case measure => simp [intOf] <;> omega
    · have i1 : ¬ (i : Int) < (S.size : Int) := by omega
      go_wp2
      go_ret
      refine ⟨?_, HBW.out⟩
      rw [HD.out, digB_true fun j hj => HALL.out j hj (by omega)]
      rfl
set_option maxRecDepth 100000 in
set_option maxHeartbeats 1600000 in
theorem zero7_any (S : ByteArray) (w : World) (hs : S.size ≤ 140737488351232) : Calls Tryz.prog 61 #[.string S] w fun e w' => SomeB e ∧ Below w.heap.size w w' := by
  go_enter Tryz.func61, Tryz.ntmps61
  go_wp2
  go_loopw [3] (fun iv wr => ∃ i : Nat, i ≤ S.size ∧ iv = .int .i64 i ∧ Below w.heap.size w wr) (fun iv _ => S.size - (intOf iv).toNat)
  case atStart => exact ⟨0, Nat.zero_le _, rfl, Below.refl _ _⟩
  case round =>
    obtain ⟨i, hi, rfl, hb⟩ := hrel
    have i0 : (0 : Int) ≤ (i : Int) := by omega
    by_cases hlt : i < S.size
    · have i1 : (i : Int) < (S.size : Int) := by omega
      obtain ⟨x, hx⟩ : ∃ x : Nat, (S[i]'hlt).toNat = x := ⟨_, rfl⟩
      by_cases h1 : x = 48
      · have h1' : ((x : Int) != 48) = false := by simp [h1]
        go_wp2
        go_roundw
        case rel => exact ⟨i + 1, by omega, by go_num, hb⟩
        case measure => simp [intOf] <;> omega
      · have h1' : ((x : Int) != 48) = true := by simp; omega
        go_wp2
        go_ret
        exact ⟨⟨_, rfl⟩, hb⟩
    · have i1 : ¬ (i : Int) < (S.size : Int) := by omega
      go_wp2
      go_ret
      exact ⟨⟨_, rfl⟩, hb⟩
/-- Where the point is, or the end. -/
def kOf (S : ByteArray) : Nat := (S.data.toList.takeWhile (· != 46)).length
theorem kOf_eq {S : ByteArray} {k : Nat} (hk : k ≤ S.size) (h1 : ∀ j (hj : j < S.size), j < k → (S[j]'hj).toNat ≠ 46) (h2 : ∀ h : k < S.size, (S[k]'h).toNat = 46) : kOf S = k := by
  unfold kOf
  have key : ∀ (l : List UInt8) (k : Nat), k ≤ l.length → (∀ (j : Nat) b, l[j]? = some b → j < k → b ≠ 46) → (∀ b, l[k]? = some b → b = 46) → (l.takeWhile (· != 46)).length = k := by
    intro l
    induction l with
    | nil => intro k hk _ _; simp at hk; simp [hk]
    | cons b l ih =>
      intro k hk ha hb
      cases k with
      | zero =>
        have := hb b rfl
        subst this
        rw [List.takeWhile_cons, if_neg (by decide)]
        rfl
      | succ k =>
        have h0 := ha 0 b rfl (by omega)
        rw [List.takeWhile_cons, if_pos (by simpa using h0), List.length_cons, ih k (by simpa using hk) (fun j c hj hjk => ha (j + 1) c (by simpa using hj) (by omega)) (fun c hc => hb c (by simpa using hc))]
  refine key _ k (by simpa using hk) (fun j b hj hjk => ?_) (fun b hb => ?_)
  · have hjs : j < S.size := by have := (List.getElem?_eq_some_iff.1 hj).1; simpa using this
    rw [getB S j hjs] at hj
    cases hj
    intro e
    have h := h1 j hjs hjk
    rw [e] at h
    exact h rfl
  · have hks : k < S.size := by have := (List.getElem?_eq_some_iff.1 hb).1; simpa using this
    rw [getB S k hks] at hb
    cases hb
    have h := h2 hks
    have e : (46 : UInt8).toNat = 46 := rfl
    exact UInt8.toNat_inj.1 (h.trans e.symm)
def whS (S : ByteArray) : ByteArray := S.extract 0 (kOf S)
def frS (S : ByteArray) : ByteArray := S.extract (kOf S + 1) S.size
def vT (W F : ByteArray) : Bool := digB (W ++ F) && (decide (1 ≤ W.size) && (decide (W.size ≤ 15) && (!(decide (1 < W.size) && decide (W.data.toList.head? = some 48)) && decide (F.size ≤ 6))))
/-- Whether a text without a sign is a number. -/
def vB (S : ByteArray) : Bool := !(decide (kOf S < S.size) && decide ((frS S).size = 0)) && vT (whS S) (frS S)
/-- What Split tells. -/
def SplitP (s : ByteArray) (w : World) (e : Ending) (w' : World) : Prop :=
  ∃ (ng : Bool) (W F : ByteArray) (b : Bool), e = .returned (.tuple #[.agg #[.bool ng, .string W, .string F], .bool b]) ∧ Below w.heap.size w w' ∧ (s.data.toList.head? ≠ some 45 → b = vB s)
theorem Tryz.infoNum7 : (Tryz.prog.info? 87).map (·.size) = some 3 := by kernel_rfl
theorem num7_cells {W : World} {g : Nat} {a b c : Value} (h : W.heap[g]? = some (.cells #[a, b, c] 87 (0, 0))) : W.cell? ⟨g, 0, none⟩ = some a ∧ W.cell? ⟨g, 1, none⟩ = some b ∧ W.cell? ⟨g, 2, none⟩ = some c ∧ W.frozen? ⟨g, 0, none⟩ = false ∧ W.frozen? ⟨g, 1, none⟩ = false ∧ W.frozen? ⟨g, 2, none⟩ = false := by
  obtain ⟨h0, h1, h2, h3, h4, h5⟩ := three_cells h
  exact ⟨h0, h1, h2, h3, h4, h5⟩
theorem head_get {s : ByteArray} (h : 0 < s.size) : s.data.toList.head? = some (s[0]'h) := by rw [List.head?_eq_getElem?, getB s 0 h]
set_option maxRecDepth 100000 in
set_option maxHeartbeats 12800000 in
theorem split7_any (s : ByteArray) (w : World) (hs : s.size ≤ 140737488351232) : Calls Tryz.prog 39 #[.string s] w (SplitP s w) := by
  obtain ⟨w1, hw1⟩ : ∃ w1, w1 = (w.alloc (.cells #[.bool false, .string ⟨#[]⟩, .string ⟨#[]⟩] 87)).alloc (.cells #[.bool false, .string ⟨#[]⟩, .string ⟨#[]⟩] 87) := ⟨_, rfl⟩
  obtain ⟨p0, p1, pb, ps⟩ := alloc2 w #[.bool false, .string ⟨#[]⟩, .string ⟨#[]⟩] #[.bool false, .string ⟨#[]⟩, .string ⟨#[]⟩] 87 87
  rw [← hw1] at p0 p1 pb ps
  obtain ⟨g0, hg0⟩ : ∃ g0, g0 = w.heap.size := ⟨_, rfl⟩
  obtain ⟨g1, hg1⟩ : ∃ g1, g1 = w.heap.size + 1 := ⟨_, rfl⟩
  obtain ⟨c0, c1, c2, c3, c4, c5⟩ := num7_cells p1
  have hne : g0 ≠ g1 := by omega
  have hle0 : w.heap.size ≤ g0 := by omega
  have hle1 : w.heap.size ≤ g1 := by omega
  rw [← hg0] at p0
  rw [← hg1] at p1 c0 c1 c2 c3 c4 c5
  have P0 := Lib.hid p0
  have P1 := Lib.hid p1
  have PB := Lib.hid pb
  have HNE := Lib.hid hne
  have HLE0 := Lib.hid hle0
  have HLE1 := Lib.hid hle1
  clear p0 p1 pb ps hne hle0 hle1
  go_enter Tryz.func39, Tryz.ntmps39
  go_upto_region 2 with fail
  rw [← hw1, ← hg1, ← hg0]
  clear hw1 hg0 hg1
  have hways : s.size = 0 ∨ 0 < s.size := by omega
  have HWAYS := Lib.hid hways
  clear hways
  go_cut [13] (fun bv wx => ∃ E : Bool, bv = .bool E ∧ w1 = wx ∧ (E = true ↔ s.data.toList.head? = some 45))
  case first =>
    rcases HWAYS.out with h0 | h0
    · have h1 : ¬ (0 : Int) < (s.size : Int) := by omega
      go_wp2
      go_meet
      refine ⟨false, rfl, rfl, ?_⟩
      have hl : s.data.toList = [] := List.eq_nil_of_length_eq_zero (by simpa using h0)
      rw [hl]
      simp
    · have h1 : (0 : Int) < (s.size : Int) := by omega
      obtain ⟨y, hy⟩ : ∃ y : Nat, (s[0]'h0).toNat = y := ⟨_, rfl⟩
      have HY := Lib.hid hy
      have HHD := Lib.hid (head_get h0)
      have e45 : (45 : UInt8).toNat = 45 := rfl
      have HE45 := Lib.hid e45
      clear e45
      by_cases hy45 : y = 45
      · have h2 : ((y : Int) == 45) = true := by simp [hy45]
        go_wp2
        go_meet
        refine ⟨true, rfl, rfl, ?_⟩
        rw [HHD.out]
        simp only [true_iff]
        congr 1
        exact UInt8.toNat_inj.1 (HY.out.trans (hy45.trans HE45.out.symm))
      · have h2 : ((y : Int) == 45) = false := by simp; omega
        go_wp2
        go_meet
        refine ⟨false, rfl, rfl, ?_⟩
        rw [HHD.out]
        simp only [Bool.false_eq_true, false_iff]
        intro e
        injection e with e
        have h3 := HY.out
        rw [e] at h3
        exact hy45 (h3.symm.trans HE45.out)
  case rest =>
    obtain ⟨E, rfl, rfl, hE⟩ := hcut
    have HE := Lib.hid hE
    clear hE
    go_upto_if 13 with fail
    go_cut [0] (fun sv wx => ∃ (S : ByteArray) (ng : Bool), sv = .string S ∧ S.size ≤ 140737488351232 ∧ wx.heap[g0]? = some (.cells #[.bool false, .string ⟨#[]⟩, .string ⟨#[]⟩] 87 (0, 0)) ∧ wx.heap[g1]? = some (.cells #[.bool ng, .string ⟨#[]⟩, .string ⟨#[]⟩] 87 (0, 0)) ∧ Below w.heap.size w wx ∧ (s.data.toList.head? ≠ some 45 → ng = false ∧ S = s))
    case first =>
      cases E
      · go_wp2
        go_meet
        exact ⟨s, false, rfl, hs, P0.out, P1.out, PB.out, fun _ => ⟨rfl, rfl⟩⟩
      · have hh := HE.out.1 rfl
        have h0 : 0 < s.size := by
          rcases Nat.eq_zero_or_pos s.size with h | h
          · have hl : s.data.toList = [] := List.eq_nil_of_length_eq_zero (by simpa using h)
            rw [hl] at hh
            simp at hh
          · exact h
        have h1 : (1 : Int) ≤ (s.size : Int) := by omega
        have HH := Lib.hid hh
        clear hh
        go_upto_region 3 with fail
        go_region
        all_goals
          go_wp2
          go_meet
          refine ⟨s.extract 1 s.size, true, rfl, by rw [ByteArray.size_extract]; omega, ?_, ?_, ((PB.out.setCell HLE1.out _).drew), fun h => absurd HH.out h⟩
          · show (w1.setCell _ _).heap[g0]? = _
            rw [Below.heap_setCell _ _ _ _ HNE.out]
            exact P0.out
          · show (w1.setCell _ _).heap[g1]? = _
            rw [Lib.heap_setCell_same (i := 0) P1.out]
            rfl
    case rest =>
      obtain ⟨S, ng, rfl, hS, hz0, hz1, hbc, hns⟩ := hcut
      obtain ⟨n, hn⟩ : ∃ n, n = S.size := ⟨_, rfl⟩
      have HZ0 := Lib.hid hz0
      have HZ1 := Lib.hid hz1
      have HBC := Lib.hid hbc
      have HNS := Lib.hid hns
      clear hz0 hz1 hbc hns c0 c1 c2 c3 c4 c5
      go_wp2
      go_loopw [5] (fun kv wr => ∃ k : Nat, k ≤ S.size ∧ kv = .int .i64 k ∧ Below wc.heap.size wc wr ∧ ∀ j (hj : j < S.size), j < k → (S[j]'hj).toNat ≠ 46) (fun kv _ => S.size - (intOf kv).toNat)
      case atStart => exact ⟨0, Nat.zero_le _, rfl, Below.refl _ _, fun j _ h => by omega⟩
      case round =>
        obtain ⟨k, hk, rfl, hb, hno⟩ := hrel
        have k0 : (0 : Int) ≤ (k : Int) := by omega
        have z0 := (hb.block g0 (Array.getElem?_eq_some_iff.1 HZ0.out).1).trans HZ0.out
        have z1 := (hb.block g1 (Array.getElem?_eq_some_iff.1 HZ1.out).1).trans HZ1.out
        have HBW := Lib.hid (HBC.out.trans (hb.mono HBC.out.size))
        have HBL := Lib.hid hb
        have HNO := Lib.hid hno
        clear hb hno
        by_cases hlt : k < S.size
        · have k1 : (k : Int) < (S.size : Int) := by omega
          obtain ⟨y, hy⟩ : ∃ y : Nat, (S[k]'hlt).toNat = y := ⟨_, rfl⟩
          have HY := Lib.hid hy
          by_cases h46 : y = 46
          · have h2 : ((y : Int) != 46) = false := by simp [h46]
            have k2 : (k : Int) ≤ (S.size : Int) := by omega
            obtain ⟨d0, d1, d2, d3, d4, d5⟩ := num7_cells z1
            have hko : kOf S = k := kOf_eq hk HNO.out (fun h => by rw [HY.out]; exact h46)
            have HKO := Lib.hid hko
            have HY46 := Lib.hid h46
            clear hko
            obtain ⟨W, hW⟩ : ∃ W, W = S.extract 0 k := ⟨_, rfl⟩
            obtain ⟨F, hF⟩ : ∃ F, F = S.extract (k + 1) S.size := ⟨_, rfl⟩
            have k3 : (k : Int) + 1 ≤ (S.size : Int) := by omega
            have hFs : F.size = S.size - (k + 1) := by rw [hF, ByteArray.size_extract]; omega
            have hWFs : W.size + F.size ≤ 140737488351232 := by
              have : W.size = k := by rw [hW, ByteArray.size_extract]; omega
              omega
            have e1 : whS S = W := by unfold whS; rw [HKO.out, hW]
            have e2 : frS S = F := by unfold frS; rw [HKO.out, hF]
            have hvt : vB S = (!decide (F.size = 0) && vT W F) := by
              unfold vB
              rw [e1, e2, HKO.out, decide_eq_true hlt, Bool.true_and]
            have HVT0 := Lib.hid hvt
            obtain ⟨w9, hw9⟩ : ∃ w9, w9 = (wr.setCell ⟨g1, 1, none⟩ (.string W)).setCell ⟨g1, 2, none⟩ (.string F) := ⟨_, rfl⟩
            have hz9 : w9.heap[g1]? = some (.cells #[.bool ng, .string W, .string F] 87 (0, 0)) := by
              have h5 : (wr.setCell ⟨g1, 1, none⟩ (.string W)).heap[g1]? = some (.cells #[.bool ng, .string W, .string ⟨#[]⟩] 87 (0, 0)) := by
                rw [Lib.heap_setCell_same (i := 1) z1]
                rfl
              rw [hw9, Lib.heap_setCell_same (i := 2) h5]
              rfl
            have hy9 : w9.heap[g0]? = some (.cells #[.bool false, .string ⟨#[]⟩, .string ⟨#[]⟩] 87 (0, 0)) := by
              rw [hw9, Below.heap_setCell _ _ _ _ HNE.out, Below.heap_setCell _ _ _ _ HNE.out]
              exact z0
            have hb9 : Below w.heap.size w w9 := by
              rw [hw9]
              exact (HBW.out.setCell HLE1.out _).setCell HLE1.out _
            have Z9 := Lib.hid hz9
            have Y9 := Lib.hid hy9
            have HB9 := Lib.hid hb9
            go_upto_region 10 with fail
            rw [← hW, ← hF, ← hw9]
            clear e1 e2 hvt hz9 hy9 hb9 z0 z1 d0 d1 d2 d3 d4 d5 hW hF hw9 hFs
            by_cases hF0 : F.size = 0
            · have hF1 : ((F.size : Int) == 0) = true := by rw [hF0]; rfl
              obtain ⟨d0, d1, d2, d3, d4, d5⟩ := num7_cells Z9.out
              obtain ⟨y0, y1, y2, y3, y4, y5⟩ := num7_cells Y9.out
              have HF0 := Lib.hid hF0
              clear hF0
              go_wp2
              refine bodyPost_ret (results_ct rfl _ _ g0 _ _ _ _ rfl (set3 Y9.out) Tryz.underlying87 rfl (by rw [Tryz.infoNum7]; rfl)) rfl ?_
              exact ⟨_, _, _, _, rfl, ((HB9.out.setCell HLE0.out _).setCell HLE0.out _).setCell HLE0.out _, fun h => by rw [← (HNS.out h).2, HVT0.out, HF0.out]; rfl⟩
            · have hF1 : ((F.size : Int) == 0) = false := by rw [beq_eq_false_iff_ne]; omega
              have HVT : Hid (vB S = vT W F) := Lib.hid (by rw [HVT0.out, decide_eq_false hF0]; rfl)
              have d2' := (num7_cells Z9.out).2.2.1
              go_upto_region 12 with fail
              clear d2'
              have had := fun X => run_string_add_sum (P := Tryz.prog) X W F (by omega)
              obtain ⟨WF, hWF⟩ : ∃ X : ByteArray, X = W ++ F := ⟨_, rfl⟩
              have hwfs : WF.size ≤ 140737488351232 := by rw [hWF, ByteArray.size_append]; exact hWFs
              rw [← hWF] at had
              obtain ⟨D, hD⟩ : ∃ D, D = digB WF := ⟨_, rfl⟩
              have hdig := fun X => digits7_any WF X hwfs
              rw [← hD] at hdig
              have hzer := fun X => zero7_any WF X hwfs
              have HDIG := Lib.hid hdig
              have HZER := Lib.hid hzer
              have hvt2 : vB S = (D && (decide (1 ≤ W.size) && (decide (W.size ≤ 15) && (!(decide (1 < W.size) && decide (W.data.toList.head? = some 48)) && decide (F.size ≤ 6))))) := by
                rw [HVT.out, hD, hWF]
                rfl
              have HV2 := Lib.hid hvt2
              have HWSZ := Lib.hid hWFs
              clear hWF hD hdig hzer hvt2 hWFs hwfs
              obtain ⟨d0, d1, d2, d3, d4, d5⟩ := num7_cells Z9.out
              obtain ⟨y0, y1, y2, y3, y4, y5⟩ := num7_cells Y9.out
              cases D
              case false =>
                go_wp2_with (go_at_call 60; refine (HDIG.out _).mono ?_; rintro e w5 ⟨rfl, hb5⟩; have hz5 := (hb5.block _ (Array.getElem?_eq_some_iff.1 Y9.out).1).trans Y9.out; obtain ⟨q0, q1, q2, q3, q4, q5⟩ := num7_cells hz5; have HZ5 := Lib.hid hz5; have HB5 := Lib.hid (HB9.out.trans (hb5.mono HB9.out.size)); clear hb5 hz5)
                refine bodyPost_ret (results_ct rfl _ _ g0 _ _ _ _ rfl (set3 HZ5.out) Tryz.underlying87 rfl (by rw [Tryz.infoNum7]; rfl)) rfl ?_
                exact ⟨_, _, _, _, rfl, ((HB5.out.setCell HLE0.out _).setCell HLE0.out _).setCell HLE0.out _, fun h => by rw [← (HNS.out h).2, HV2.out]; rfl⟩
              case true =>
                by_cases a1 : W.size < 1
                · have a1' : (W.size : Int) < 1 := by omega
                  go_wp2_with (go_at_call 60; refine (HDIG.out _).mono ?_; rintro e w5 ⟨rfl, hb5⟩; have hz5 := (hb5.block _ (Array.getElem?_eq_some_iff.1 Y9.out).1).trans Y9.out; have hx5 := (hb5.block _ (Array.getElem?_eq_some_iff.1 Z9.out).1).trans Z9.out; obtain ⟨q0, q1, q2, q3, q4, q5⟩ := num7_cells hz5; obtain ⟨r0, r1, r2, r3, r4, r5⟩ := num7_cells hx5; have HZ5 := Lib.hid hz5; have HX5 := Lib.hid hx5; have HB5 := Lib.hid (HB9.out.trans (hb5.mono HB9.out.size)); clear hb5 hz5 hx5)
                  refine bodyPost_ret (results_ct rfl _ _ g0 _ _ _ _ rfl (set3 HZ5.out) Tryz.underlying87 rfl (by rw [Tryz.infoNum7]; rfl)) rfl ?_
                  exact ⟨_, _, _, _, rfl, ((HB5.out.setCell HLE0.out _).setCell HLE0.out _).setCell HLE0.out _, fun h => by
                    rw [← (HNS.out h).2, HV2.out]
                    simp [show ¬ 1 ≤ W.size from by omega]⟩
                · have a1' : ¬ (W.size : Int) < 1 := by omega
                  by_cases a2 : 15 < W.size
                  · have a2' : (15 : Int) < (W.size : Int) := by omega
                    go_wp2_with (go_at_call 60; refine (HDIG.out _).mono ?_; rintro e w5 ⟨rfl, hb5⟩; have hz5 := (hb5.block _ (Array.getElem?_eq_some_iff.1 Y9.out).1).trans Y9.out; have hx5 := (hb5.block _ (Array.getElem?_eq_some_iff.1 Z9.out).1).trans Z9.out; obtain ⟨q0, q1, q2, q3, q4, q5⟩ := num7_cells hz5; obtain ⟨r0, r1, r2, r3, r4, r5⟩ := num7_cells hx5; have HZ5 := Lib.hid hz5; have HX5 := Lib.hid hx5; have HB5 := Lib.hid (HB9.out.trans (hb5.mono HB9.out.size)); clear hb5 hz5 hx5)
                    refine bodyPost_ret (results_ct rfl _ _ g0 _ _ _ _ rfl (set3 HZ5.out) Tryz.underlying87 rfl (by rw [Tryz.infoNum7]; rfl)) rfl ?_
                    exact ⟨_, _, _, _, rfl, ((HB5.out.setCell HLE0.out _).setCell HLE0.out _).setCell HLE0.out _, fun h => by
                      rw [← (HNS.out h).2, HV2.out]
                      simp [show ¬ W.size ≤ 15 from by omega]⟩
                  · have a2' : ¬ (15 : Int) < (W.size : Int) := by omega
                    by_cases a3 : 1 < W.size
                    · have a3' : (1 : Int) < (W.size : Int) := by omega
                      have w0 : 0 < W.size := by omega
                      obtain ⟨yy, hyy⟩ : ∃ y : Nat, (W[0]'w0).toNat = y := ⟨_, rfl⟩
                      have HYY := Lib.hid hyy
                      have HWH := Lib.hid (head_get w0)
                      by_cases a5 : yy = 48
                      · have a5' : ((yy : Int) == 48) = true := by simp [a5]
                        have h48 : W.data.toList.head? = some 48 := by
                          rw [HWH.out]
                          congr 1
                          have e48 : (48 : UInt8).toNat = 48 := rfl
                          exact UInt8.toNat_inj.1 (HYY.out.trans (a5.trans e48.symm))
                        have H48 := Lib.hid h48
                        clear h48
                        go_wp2_with (go_at_call 60; refine (HDIG.out _).mono ?_; rintro e w5 ⟨rfl, hb5⟩; have hz5 := (hb5.block _ (Array.getElem?_eq_some_iff.1 Y9.out).1).trans Y9.out; have hx5 := (hb5.block _ (Array.getElem?_eq_some_iff.1 Z9.out).1).trans Z9.out; obtain ⟨q0, q1, q2, q3, q4, q5⟩ := num7_cells hz5; obtain ⟨r0, r1, r2, r3, r4, r5⟩ := num7_cells hx5; have HZ5 := Lib.hid hz5; have HX5 := Lib.hid hx5; have HB5 := Lib.hid (HB9.out.trans (hb5.mono HB9.out.size)); clear hb5 hz5 hx5)
                        refine bodyPost_ret (results_ct rfl _ _ g0 _ _ _ _ rfl (set3 HZ5.out) Tryz.underlying87 rfl (by rw [Tryz.infoNum7]; rfl)) rfl ?_
                        exact ⟨_, _, _, _, rfl, ((HB5.out.setCell HLE0.out _).setCell HLE0.out _).setCell HLE0.out _, fun h => by
                          rw [← (HNS.out h).2, HV2.out]
                          simp [H48.out, a3]⟩
                      · have a5' : ((yy : Int) == 48) = false := by simp; omega
                        have h48 : ¬ W.data.toList.head? = some 48 := by
                          rw [HWH.out]
                          intro e
                          injection e with e
                          have h1 := HYY.out
                          rw [e] at h1
                          exact a5 h1.symm
                        have H48 := Lib.hid h48
                        clear h48
                        by_cases a4 : 6 < F.size
                        · have a4' : (6 : Int) < (F.size : Int) := by omega
                          go_wp2_with (go_at_call 60; refine (HDIG.out _).mono ?_; rintro e w5 ⟨rfl, hb5⟩; have hz5 := (hb5.block _ (Array.getElem?_eq_some_iff.1 Y9.out).1).trans Y9.out; have hx5 := (hb5.block _ (Array.getElem?_eq_some_iff.1 Z9.out).1).trans Z9.out; obtain ⟨q0, q1, q2, q3, q4, q5⟩ := num7_cells hz5; obtain ⟨r0, r1, r2, r3, r4, r5⟩ := num7_cells hx5; have HZ5 := Lib.hid hz5; have HX5 := Lib.hid hx5; have HB5 := Lib.hid (HB9.out.trans (hb5.mono HB9.out.size)); clear hb5 hz5 hx5)
                          refine bodyPost_ret (results_ct rfl _ _ g0 _ _ _ _ rfl (set3 HZ5.out) Tryz.underlying87 rfl (by rw [Tryz.infoNum7]; rfl)) rfl ?_
                          exact ⟨_, _, _, _, rfl, ((HB5.out.setCell HLE0.out _).setCell HLE0.out _).setCell HLE0.out _, fun h => by
                            rw [← (HNS.out h).2, HV2.out]
                            simp [H48.out, show ¬ F.size ≤ 6 from by omega]⟩
                        · have a4' : ¬ (6 : Int) < (F.size : Int) := by omega
                          cases ng
                          · go_wp2_with (go_at_call 60; refine (HDIG.out _).mono ?_; rintro e w5 ⟨rfl, hb5⟩; have hz5 := (hb5.block _ (Array.getElem?_eq_some_iff.1 Y9.out).1).trans Y9.out; have hx5 := (hb5.block _ (Array.getElem?_eq_some_iff.1 Z9.out).1).trans Z9.out; obtain ⟨q0, q1, q2, q3, q4, q5⟩ := num7_cells hz5; obtain ⟨r0, r1, r2, r3, r4, r5⟩ := num7_cells hx5; have HZ5 := Lib.hid hz5; have HX5 := Lib.hid hx5; have HB5 := Lib.hid (HB9.out.trans (hb5.mono HB9.out.size)); clear hb5 hz5 hx5)
                            refine bodyPost_ret (results_ct rfl _ _ g0 _ _ _ _ rfl (set3 HZ5.out) Tryz.underlying87 rfl (by rw [Tryz.infoNum7]; rfl)) rfl ?_
                            exact ⟨_, _, _, _, rfl, ((HB5.out.setCell HLE0.out _).setCell HLE0.out _).setCell HLE0.out _, fun h => by
                              rw [← (HNS.out h).2, HV2.out]
                              simp [H48.out, show 1 ≤ W.size from by omega, show W.size ≤ 15 from by omega, show F.size ≤ 6 from by omega]⟩
                          · go_wp2_with (first | (go_at_call 60; refine (HDIG.out _).mono ?_; rintro e w5 ⟨rfl, hb5⟩; have hz5 := (hb5.block _ (Array.getElem?_eq_some_iff.1 Y9.out).1).trans Y9.out; have hx5 := (hb5.block _ (Array.getElem?_eq_some_iff.1 Z9.out).1).trans Z9.out; obtain ⟨q0, q1, q2, q3, q4, q5⟩ := num7_cells hz5; obtain ⟨r0, r1, r2, r3, r4, r5⟩ := num7_cells hx5; have HZ5 := Lib.hid hz5; have HX5 := Lib.hid hx5; have HB5 := Lib.hid (HB9.out.trans (hb5.mono HB9.out.size)); clear hb5 hz5 hx5) | (go_at_call 61; refine (HZER.out _).mono ?_; rintro e w6 ⟨⟨zb, rfl⟩, hb6⟩; have hz6 := (hb6.block _ (Array.getElem?_eq_some_iff.1 HZ5.out).1).trans HZ5.out; have hx6 := (hb6.block _ (Array.getElem?_eq_some_iff.1 HX5.out).1).trans HX5.out; obtain ⟨u0, u1, u2, u3, u4, u5⟩ := num7_cells hz6; obtain ⟨t0, t1, t2, t3, t4, t5⟩ := num7_cells hx6; have HZ6 := Lib.hid hz6; have HX6 := Lib.hid hx6; have HB6 := Lib.hid (HB5.out.trans (hb6.mono HB5.out.size)); clear hb6 hz6 hx6; cases zb))
                            all_goals
                              refine bodyPost_ret (results_ct rfl _ _ g0 _ _ _ _ rfl (set3 HZ6.out) Tryz.underlying87 rfl (by rw [Tryz.infoNum7]; rfl)) rfl ?_
                              exact ⟨_, _, _, _, rfl, ((HB6.out.setCell HLE0.out _).setCell HLE0.out _).setCell HLE0.out _, fun h => by have h1 := (HNS.out h).1; cases h1⟩
                    · have a3' : ¬ (1 : Int) < (W.size : Int) := by omega
                      by_cases a4 : 6 < F.size
                      · have a4' : (6 : Int) < (F.size : Int) := by omega
                        go_wp2_with (go_at_call 60; refine (HDIG.out _).mono ?_; rintro e w5 ⟨rfl, hb5⟩; have hz5 := (hb5.block _ (Array.getElem?_eq_some_iff.1 Y9.out).1).trans Y9.out; have hx5 := (hb5.block _ (Array.getElem?_eq_some_iff.1 Z9.out).1).trans Z9.out; obtain ⟨q0, q1, q2, q3, q4, q5⟩ := num7_cells hz5; obtain ⟨r0, r1, r2, r3, r4, r5⟩ := num7_cells hx5; have HZ5 := Lib.hid hz5; have HX5 := Lib.hid hx5; have HB5 := Lib.hid (HB9.out.trans (hb5.mono HB9.out.size)); clear hb5 hz5 hx5)
                        refine bodyPost_ret (results_ct rfl _ _ g0 _ _ _ _ rfl (set3 HZ5.out) Tryz.underlying87 rfl (by rw [Tryz.infoNum7]; rfl)) rfl ?_
                        exact ⟨_, _, _, _, rfl, ((HB5.out.setCell HLE0.out _).setCell HLE0.out _).setCell HLE0.out _, fun h => by
                          rw [← (HNS.out h).2, HV2.out]
                          simp [a3, show ¬ F.size ≤ 6 from by omega]⟩
                      · have a4' : ¬ (6 : Int) < (F.size : Int) := by omega
                        cases ng
                        · go_wp2_with (go_at_call 60; refine (HDIG.out _).mono ?_; rintro e w5 ⟨rfl, hb5⟩; have hz5 := (hb5.block _ (Array.getElem?_eq_some_iff.1 Y9.out).1).trans Y9.out; have hx5 := (hb5.block _ (Array.getElem?_eq_some_iff.1 Z9.out).1).trans Z9.out; obtain ⟨q0, q1, q2, q3, q4, q5⟩ := num7_cells hz5; obtain ⟨r0, r1, r2, r3, r4, r5⟩ := num7_cells hx5; have HZ5 := Lib.hid hz5; have HX5 := Lib.hid hx5; have HB5 := Lib.hid (HB9.out.trans (hb5.mono HB9.out.size)); clear hb5 hz5 hx5)
                          refine bodyPost_ret (results_ct rfl _ _ g0 _ _ _ _ rfl (set3 HZ5.out) Tryz.underlying87 rfl (by rw [Tryz.infoNum7]; rfl)) rfl ?_
                          exact ⟨_, _, _, _, rfl, ((HB5.out.setCell HLE0.out _).setCell HLE0.out _).setCell HLE0.out _, fun h => by
                            rw [← (HNS.out h).2, HV2.out]
                            simp [a3, show 1 ≤ W.size from by omega, show W.size ≤ 15 from by omega, show F.size ≤ 6 from by omega]⟩
                        · go_wp2_with (first | (go_at_call 60; refine (HDIG.out _).mono ?_; rintro e w5 ⟨rfl, hb5⟩; have hz5 := (hb5.block _ (Array.getElem?_eq_some_iff.1 Y9.out).1).trans Y9.out; have hx5 := (hb5.block _ (Array.getElem?_eq_some_iff.1 Z9.out).1).trans Z9.out; obtain ⟨q0, q1, q2, q3, q4, q5⟩ := num7_cells hz5; obtain ⟨r0, r1, r2, r3, r4, r5⟩ := num7_cells hx5; have HZ5 := Lib.hid hz5; have HX5 := Lib.hid hx5; have HB5 := Lib.hid (HB9.out.trans (hb5.mono HB9.out.size)); clear hb5 hz5 hx5) | (go_at_call 61; refine (HZER.out _).mono ?_; rintro e w6 ⟨⟨zb, rfl⟩, hb6⟩; have hz6 := (hb6.block _ (Array.getElem?_eq_some_iff.1 HZ5.out).1).trans HZ5.out; have hx6 := (hb6.block _ (Array.getElem?_eq_some_iff.1 HX5.out).1).trans HX5.out; obtain ⟨u0, u1, u2, u3, u4, u5⟩ := num7_cells hz6; obtain ⟨t0, t1, t2, t3, t4, t5⟩ := num7_cells hx6; have HZ6 := Lib.hid hz6; have HX6 := Lib.hid hx6; have HB6 := Lib.hid (HB5.out.trans (hb6.mono HB5.out.size)); clear hb6 hz6 hx6; cases zb))
                          all_goals
                            refine bodyPost_ret (results_ct rfl _ _ g0 _ _ _ _ rfl (set3 HZ6.out) Tryz.underlying87 rfl (by rw [Tryz.infoNum7]; rfl)) rfl ?_
                            exact ⟨_, _, _, _, rfl, ((HB6.out.setCell HLE0.out _).setCell HLE0.out _).setCell HLE0.out _, fun h => by have h1 := (HNS.out h).1; cases h1⟩
          · have h2 : ((y : Int) != 46) = true := by simp; omega
            clear z0 z1
            go_wp2
            go_roundw
            case rel =>
              refine ⟨k + 1, by omega, by go_num, HBL.out, fun j hj hjk => ?_⟩
              by_cases he : j < k
              · exact HNO.out j hj he
              · have : j = k := by omega
                subst this
                rw [HY.out]
                exact h46
            case measure => simp [intOf] <;> omega
        · have k1 : ¬ (k : Int) < (S.size : Int) := by omega
          have k2 : (k : Int) ≤ (S.size : Int) := by omega
          obtain ⟨d0, d1, d2, d3, d4, d5⟩ := num7_cells z1
          have hko : kOf S = k := kOf_eq hk HNO.out (fun h => absurd h hlt)
          have HKO := Lib.hid hko
          obtain ⟨W, hW⟩ : ∃ W, W = S.extract 0 k := ⟨_, rfl⟩
          obtain ⟨F, hF⟩ : ∃ F : ByteArray, F = ⟨#[]⟩ := ⟨_, rfl⟩
          have hWFs : W.size + F.size ≤ 140737488351232 := by
            rw [hW, hF, ByteArray.size_extract]
            show _ + 0 ≤ _
            omega
          have hvt : vB S = vT W F := by
            have e1 : whS S = W := by unfold whS; rw [hko, hW]
            have e2 : frS S = F := by
              unfold frS
              rw [hko, hF]
              apply ByteArray.ext
              apply Array.ext'
              apply List.eq_nil_of_length_eq_zero
              have h3 : (S.extract (k + 1) S.size).size = 0 := by rw [ByteArray.size_extract]; omega
              simpa using h3
            unfold vB
            rw [e1, e2, decide_eq_false (by omega)]
            rfl
          have HVT := Lib.hid hvt
          obtain ⟨w9, hw9⟩ : ∃ w9, w9 = wr.setCell ⟨g1, 1, none⟩ (.string W) := ⟨_, rfl⟩
          have hz9 : w9.heap[g1]? = some (.cells #[.bool ng, .string W, .string F] 87 (0, 0)) := by
            rw [hw9, Lib.heap_setCell_same (i := 1) z1, hF]
            rfl
          have hy9 : w9.heap[g0]? = some (.cells #[.bool false, .string ⟨#[]⟩, .string ⟨#[]⟩] 87 (0, 0)) := by
            rw [hw9, Below.heap_setCell _ _ _ _ HNE.out]
            exact z0
          have hb9 : Below w.heap.size w w9 := by
            rw [hw9]
            exact HBW.out.setCell HLE1.out _
          have Z9 := Lib.hid hz9
          have Y9 := Lib.hid hy9
          have HB9 := Lib.hid hb9
          go_upto_region 12 with fail
          rw [← hW, ← hw9]
          clear hko hvt hF hz9 hy9 hb9 z0 z1 d0 d1 d2 d3 d4 d5 hW hw9
          have had := fun X => run_string_add_sum (P := Tryz.prog) X W F (by omega)
          obtain ⟨WF, hWF⟩ : ∃ X : ByteArray, X = W ++ F := ⟨_, rfl⟩
          have hwfs : WF.size ≤ 140737488351232 := by rw [hWF, ByteArray.size_append]; exact hWFs
          rw [← hWF] at had
          obtain ⟨D, hD⟩ : ∃ D, D = digB WF := ⟨_, rfl⟩
          have hdig := fun X => digits7_any WF X hwfs
          rw [← hD] at hdig
          have hzer := fun X => zero7_any WF X hwfs
          have HDIG := Lib.hid hdig
          have HZER := Lib.hid hzer
          have hvt2 : vB S = (D && (decide (1 ≤ W.size) && (decide (W.size ≤ 15) && (!(decide (1 < W.size) && decide (W.data.toList.head? = some 48)) && decide (F.size ≤ 6))))) := by
            rw [HVT.out, hD, hWF]
            rfl
          have HV2 := Lib.hid hvt2
          have HWSZ := Lib.hid hWFs
          clear hWF hD hdig hzer hvt2 hWFs hwfs
          obtain ⟨d0, d1, d2, d3, d4, d5⟩ := num7_cells Z9.out
          obtain ⟨y0, y1, y2, y3, y4, y5⟩ := num7_cells Y9.out
          cases D
          case false =>
            go_wp2_with (go_at_call 60; refine (HDIG.out _).mono ?_; rintro e w5 ⟨rfl, hb5⟩; have hz5 := (hb5.block _ (Array.getElem?_eq_some_iff.1 Y9.out).1).trans Y9.out; obtain ⟨q0, q1, q2, q3, q4, q5⟩ := num7_cells hz5; have HZ5 := Lib.hid hz5; have HB5 := Lib.hid (HB9.out.trans (hb5.mono HB9.out.size)); clear hb5 hz5)
            refine bodyPost_ret (results_ct rfl _ _ g0 _ _ _ _ rfl (set3 HZ5.out) Tryz.underlying87 rfl (by rw [Tryz.infoNum7]; rfl)) rfl ?_
            exact ⟨_, _, _, _, rfl, ((HB5.out.setCell HLE0.out _).setCell HLE0.out _).setCell HLE0.out _, fun h => by rw [← (HNS.out h).2, HV2.out]; rfl⟩
          case true =>
            by_cases a1 : W.size < 1
            · have a1' : (W.size : Int) < 1 := by omega
              go_wp2_with (go_at_call 60; refine (HDIG.out _).mono ?_; rintro e w5 ⟨rfl, hb5⟩; have hz5 := (hb5.block _ (Array.getElem?_eq_some_iff.1 Y9.out).1).trans Y9.out; have hx5 := (hb5.block _ (Array.getElem?_eq_some_iff.1 Z9.out).1).trans Z9.out; obtain ⟨q0, q1, q2, q3, q4, q5⟩ := num7_cells hz5; obtain ⟨r0, r1, r2, r3, r4, r5⟩ := num7_cells hx5; have HZ5 := Lib.hid hz5; have HX5 := Lib.hid hx5; have HB5 := Lib.hid (HB9.out.trans (hb5.mono HB9.out.size)); clear hb5 hz5 hx5)
              refine bodyPost_ret (results_ct rfl _ _ g0 _ _ _ _ rfl (set3 HZ5.out) Tryz.underlying87 rfl (by rw [Tryz.infoNum7]; rfl)) rfl ?_
              exact ⟨_, _, _, _, rfl, ((HB5.out.setCell HLE0.out _).setCell HLE0.out _).setCell HLE0.out _, fun h => by
                rw [← (HNS.out h).2, HV2.out]
                simp [show ¬ 1 ≤ W.size from by omega]⟩
            · have a1' : ¬ (W.size : Int) < 1 := by omega
              by_cases a2 : 15 < W.size
              · have a2' : (15 : Int) < (W.size : Int) := by omega
                go_wp2_with (go_at_call 60; refine (HDIG.out _).mono ?_; rintro e w5 ⟨rfl, hb5⟩; have hz5 := (hb5.block _ (Array.getElem?_eq_some_iff.1 Y9.out).1).trans Y9.out; have hx5 := (hb5.block _ (Array.getElem?_eq_some_iff.1 Z9.out).1).trans Z9.out; obtain ⟨q0, q1, q2, q3, q4, q5⟩ := num7_cells hz5; obtain ⟨r0, r1, r2, r3, r4, r5⟩ := num7_cells hx5; have HZ5 := Lib.hid hz5; have HX5 := Lib.hid hx5; have HB5 := Lib.hid (HB9.out.trans (hb5.mono HB9.out.size)); clear hb5 hz5 hx5)
                refine bodyPost_ret (results_ct rfl _ _ g0 _ _ _ _ rfl (set3 HZ5.out) Tryz.underlying87 rfl (by rw [Tryz.infoNum7]; rfl)) rfl ?_
                exact ⟨_, _, _, _, rfl, ((HB5.out.setCell HLE0.out _).setCell HLE0.out _).setCell HLE0.out _, fun h => by
                  rw [← (HNS.out h).2, HV2.out]
                  simp [show ¬ W.size ≤ 15 from by omega]⟩
              · have a2' : ¬ (15 : Int) < (W.size : Int) := by omega
                by_cases a3 : 1 < W.size
                · have a3' : (1 : Int) < (W.size : Int) := by omega
                  have w0 : 0 < W.size := by omega
                  obtain ⟨yy, hyy⟩ : ∃ y : Nat, (W[0]'w0).toNat = y := ⟨_, rfl⟩
                  have HYY := Lib.hid hyy
                  have HWH := Lib.hid (head_get w0)
                  by_cases a5 : yy = 48
                  · have a5' : ((yy : Int) == 48) = true := by simp [a5]
                    have h48 : W.data.toList.head? = some 48 := by
                      rw [HWH.out]
                      congr 1
                      have e48 : (48 : UInt8).toNat = 48 := rfl
                      exact UInt8.toNat_inj.1 (HYY.out.trans (a5.trans e48.symm))
                    have H48 := Lib.hid h48
                    clear h48
                    go_wp2_with (go_at_call 60; refine (HDIG.out _).mono ?_; rintro e w5 ⟨rfl, hb5⟩; have hz5 := (hb5.block _ (Array.getElem?_eq_some_iff.1 Y9.out).1).trans Y9.out; have hx5 := (hb5.block _ (Array.getElem?_eq_some_iff.1 Z9.out).1).trans Z9.out; obtain ⟨q0, q1, q2, q3, q4, q5⟩ := num7_cells hz5; obtain ⟨r0, r1, r2, r3, r4, r5⟩ := num7_cells hx5; have HZ5 := Lib.hid hz5; have HX5 := Lib.hid hx5; have HB5 := Lib.hid (HB9.out.trans (hb5.mono HB9.out.size)); clear hb5 hz5 hx5)
                    refine bodyPost_ret (results_ct rfl _ _ g0 _ _ _ _ rfl (set3 HZ5.out) Tryz.underlying87 rfl (by rw [Tryz.infoNum7]; rfl)) rfl ?_
                    exact ⟨_, _, _, _, rfl, ((HB5.out.setCell HLE0.out _).setCell HLE0.out _).setCell HLE0.out _, fun h => by
                      rw [← (HNS.out h).2, HV2.out]
                      simp [H48.out, a3]⟩
                  · have a5' : ((yy : Int) == 48) = false := by simp; omega
                    have h48 : ¬ W.data.toList.head? = some 48 := by
                      rw [HWH.out]
                      intro e
                      injection e with e
                      have h1 := HYY.out
                      rw [e] at h1
                      exact a5 h1.symm
                    have H48 := Lib.hid h48
                    clear h48
                    by_cases a4 : 6 < F.size
                    · have a4' : (6 : Int) < (F.size : Int) := by omega
                      go_wp2_with (go_at_call 60; refine (HDIG.out _).mono ?_; rintro e w5 ⟨rfl, hb5⟩; have hz5 := (hb5.block _ (Array.getElem?_eq_some_iff.1 Y9.out).1).trans Y9.out; have hx5 := (hb5.block _ (Array.getElem?_eq_some_iff.1 Z9.out).1).trans Z9.out; obtain ⟨q0, q1, q2, q3, q4, q5⟩ := num7_cells hz5; obtain ⟨r0, r1, r2, r3, r4, r5⟩ := num7_cells hx5; have HZ5 := Lib.hid hz5; have HX5 := Lib.hid hx5; have HB5 := Lib.hid (HB9.out.trans (hb5.mono HB9.out.size)); clear hb5 hz5 hx5)
                      refine bodyPost_ret (results_ct rfl _ _ g0 _ _ _ _ rfl (set3 HZ5.out) Tryz.underlying87 rfl (by rw [Tryz.infoNum7]; rfl)) rfl ?_
                      exact ⟨_, _, _, _, rfl, ((HB5.out.setCell HLE0.out _).setCell HLE0.out _).setCell HLE0.out _, fun h => by
                        rw [← (HNS.out h).2, HV2.out]
                        simp [H48.out, show ¬ F.size ≤ 6 from by omega]⟩
                    · have a4' : ¬ (6 : Int) < (F.size : Int) := by omega
                      cases ng
                      · go_wp2_with (go_at_call 60; refine (HDIG.out _).mono ?_; rintro e w5 ⟨rfl, hb5⟩; have hz5 := (hb5.block _ (Array.getElem?_eq_some_iff.1 Y9.out).1).trans Y9.out; have hx5 := (hb5.block _ (Array.getElem?_eq_some_iff.1 Z9.out).1).trans Z9.out; obtain ⟨q0, q1, q2, q3, q4, q5⟩ := num7_cells hz5; obtain ⟨r0, r1, r2, r3, r4, r5⟩ := num7_cells hx5; have HZ5 := Lib.hid hz5; have HX5 := Lib.hid hx5; have HB5 := Lib.hid (HB9.out.trans (hb5.mono HB9.out.size)); clear hb5 hz5 hx5)
                        refine bodyPost_ret (results_ct rfl _ _ g0 _ _ _ _ rfl (set3 HZ5.out) Tryz.underlying87 rfl (by rw [Tryz.infoNum7]; rfl)) rfl ?_
                        exact ⟨_, _, _, _, rfl, ((HB5.out.setCell HLE0.out _).setCell HLE0.out _).setCell HLE0.out _, fun h => by
                          rw [← (HNS.out h).2, HV2.out]
                          simp [H48.out, show 1 ≤ W.size from by omega, show W.size ≤ 15 from by omega, show F.size ≤ 6 from by omega]⟩
                      · go_wp2_with (first | (go_at_call 60; refine (HDIG.out _).mono ?_; rintro e w5 ⟨rfl, hb5⟩; have hz5 := (hb5.block _ (Array.getElem?_eq_some_iff.1 Y9.out).1).trans Y9.out; have hx5 := (hb5.block _ (Array.getElem?_eq_some_iff.1 Z9.out).1).trans Z9.out; obtain ⟨q0, q1, q2, q3, q4, q5⟩ := num7_cells hz5; obtain ⟨r0, r1, r2, r3, r4, r5⟩ := num7_cells hx5; have HZ5 := Lib.hid hz5; have HX5 := Lib.hid hx5; have HB5 := Lib.hid (HB9.out.trans (hb5.mono HB9.out.size)); clear hb5 hz5 hx5) | (go_at_call 61; refine (HZER.out _).mono ?_; rintro e w6 ⟨⟨zb, rfl⟩, hb6⟩; have hz6 := (hb6.block _ (Array.getElem?_eq_some_iff.1 HZ5.out).1).trans HZ5.out; have hx6 := (hb6.block _ (Array.getElem?_eq_some_iff.1 HX5.out).1).trans HX5.out; obtain ⟨u0, u1, u2, u3, u4, u5⟩ := num7_cells hz6; obtain ⟨t0, t1, t2, t3, t4, t5⟩ := num7_cells hx6; have HZ6 := Lib.hid hz6; have HX6 := Lib.hid hx6; have HB6 := Lib.hid (HB5.out.trans (hb6.mono HB5.out.size)); clear hb6 hz6 hx6; cases zb))
                        all_goals
                          refine bodyPost_ret (results_ct rfl _ _ g0 _ _ _ _ rfl (set3 HZ6.out) Tryz.underlying87 rfl (by rw [Tryz.infoNum7]; rfl)) rfl ?_
                          exact ⟨_, _, _, _, rfl, ((HB6.out.setCell HLE0.out _).setCell HLE0.out _).setCell HLE0.out _, fun h => by have h1 := (HNS.out h).1; cases h1⟩
                · have a3' : ¬ (1 : Int) < (W.size : Int) := by omega
                  by_cases a4 : 6 < F.size
                  · have a4' : (6 : Int) < (F.size : Int) := by omega
                    go_wp2_with (go_at_call 60; refine (HDIG.out _).mono ?_; rintro e w5 ⟨rfl, hb5⟩; have hz5 := (hb5.block _ (Array.getElem?_eq_some_iff.1 Y9.out).1).trans Y9.out; have hx5 := (hb5.block _ (Array.getElem?_eq_some_iff.1 Z9.out).1).trans Z9.out; obtain ⟨q0, q1, q2, q3, q4, q5⟩ := num7_cells hz5; obtain ⟨r0, r1, r2, r3, r4, r5⟩ := num7_cells hx5; have HZ5 := Lib.hid hz5; have HX5 := Lib.hid hx5; have HB5 := Lib.hid (HB9.out.trans (hb5.mono HB9.out.size)); clear hb5 hz5 hx5)
                    refine bodyPost_ret (results_ct rfl _ _ g0 _ _ _ _ rfl (set3 HZ5.out) Tryz.underlying87 rfl (by rw [Tryz.infoNum7]; rfl)) rfl ?_
                    exact ⟨_, _, _, _, rfl, ((HB5.out.setCell HLE0.out _).setCell HLE0.out _).setCell HLE0.out _, fun h => by
                      rw [← (HNS.out h).2, HV2.out]
                      simp [a3, show ¬ F.size ≤ 6 from by omega]⟩
                  · have a4' : ¬ (6 : Int) < (F.size : Int) := by omega
                    cases ng
                    · go_wp2_with (go_at_call 60; refine (HDIG.out _).mono ?_; rintro e w5 ⟨rfl, hb5⟩; have hz5 := (hb5.block _ (Array.getElem?_eq_some_iff.1 Y9.out).1).trans Y9.out; have hx5 := (hb5.block _ (Array.getElem?_eq_some_iff.1 Z9.out).1).trans Z9.out; obtain ⟨q0, q1, q2, q3, q4, q5⟩ := num7_cells hz5; obtain ⟨r0, r1, r2, r3, r4, r5⟩ := num7_cells hx5; have HZ5 := Lib.hid hz5; have HX5 := Lib.hid hx5; have HB5 := Lib.hid (HB9.out.trans (hb5.mono HB9.out.size)); clear hb5 hz5 hx5)
                      refine bodyPost_ret (results_ct rfl _ _ g0 _ _ _ _ rfl (set3 HZ5.out) Tryz.underlying87 rfl (by rw [Tryz.infoNum7]; rfl)) rfl ?_
                      exact ⟨_, _, _, _, rfl, ((HB5.out.setCell HLE0.out _).setCell HLE0.out _).setCell HLE0.out _, fun h => by
                        rw [← (HNS.out h).2, HV2.out]
                        simp [a3, show 1 ≤ W.size from by omega, show W.size ≤ 15 from by omega, show F.size ≤ 6 from by omega]⟩
                    · go_wp2_with (first | (go_at_call 60; refine (HDIG.out _).mono ?_; rintro e w5 ⟨rfl, hb5⟩; have hz5 := (hb5.block _ (Array.getElem?_eq_some_iff.1 Y9.out).1).trans Y9.out; have hx5 := (hb5.block _ (Array.getElem?_eq_some_iff.1 Z9.out).1).trans Z9.out; obtain ⟨q0, q1, q2, q3, q4, q5⟩ := num7_cells hz5; obtain ⟨r0, r1, r2, r3, r4, r5⟩ := num7_cells hx5; have HZ5 := Lib.hid hz5; have HX5 := Lib.hid hx5; have HB5 := Lib.hid (HB9.out.trans (hb5.mono HB9.out.size)); clear hb5 hz5 hx5) | (go_at_call 61; refine (HZER.out _).mono ?_; rintro e w6 ⟨⟨zb, rfl⟩, hb6⟩; have hz6 := (hb6.block _ (Array.getElem?_eq_some_iff.1 HZ5.out).1).trans HZ5.out; have hx6 := (hb6.block _ (Array.getElem?_eq_some_iff.1 HX5.out).1).trans HX5.out; obtain ⟨u0, u1, u2, u3, u4, u5⟩ := num7_cells hz6; obtain ⟨t0, t1, t2, t3, t4, t5⟩ := num7_cells hx6; have HZ6 := Lib.hid hz6; have HX6 := Lib.hid hx6; have HB6 := Lib.hid (HB5.out.trans (hb6.mono HB5.out.size)); clear hb6 hz6 hx6; cases zb))
                      all_goals
                        refine bodyPost_ret (results_ct rfl _ _ g0 _ _ _ _ rfl (set3 HZ6.out) Tryz.underlying87 rfl (by rw [Tryz.infoNum7]; rfl)) rfl ?_
                        exact ⟨_, _, _, _, rfl, ((HB6.out.setCell HLE0.out _).setCell HLE0.out _).setCell HLE0.out _, fun h => by have h1 := (HNS.out h).1; cases h1⟩
end Go.Proofs.YtbkcmgjmhglghaaGreatDoor
