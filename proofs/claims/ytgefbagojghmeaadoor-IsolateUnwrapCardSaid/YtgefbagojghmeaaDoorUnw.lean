/-
  isolate.Unwrap and calqueref24.Unwrap.
-/
import Derived.Test.YtgefbagojghmeaaDoorRb6
import Derived.Test.YtgefbagojghmeaaDoorIsP
import Derived.Test.YtgefbagojghmeaaDoorCut
namespace Go.Proofs.YtgefbagojghmeaaDoor
open Go.RowKit

def opnS : ByteArray := ⟨#[226, 129, 168]⟩
def clsS : ByteArray := ⟨#[226, 129, 169]⟩
def unwB (s : ByteArray) : Bool := decide (6 ≤ s.size) && decide (s.extract 0 3 = opnS) && decide (s.extract (s.size - 3) s.size = clsS) && balB (s.extract 3 (s.size - 3))
def unwV (s : ByteArray) : Value := if unwB s then .tuple #[.string (s.extract 3 (s.size - 3)), .bool true] else .tuple #[.string ⟨#[]⟩, .bool false]
theorem enc_opn : encS [8296] = opnS := by decide +kernel
theorem enc_cls : encS [8297] = clsS := by decide +kernel
theorem ext_ext (s : ByteArray) (h : 3 ≤ s.size) : (s.extract 3 s.size).size = s.size - 3 ∧ (∀ k, k ≤ s.size - 3 → (s.extract 3 s.size).extract 0 k = s.extract 3 (3 + k)) ∧ (∀ k, k ≤ s.size - 3 → (s.extract 3 s.size).extract (s.size - 3 - k) (s.size - 3) = s.extract (s.size - k) s.size) := by
  refine ⟨by rw [ByteArray.size_extract]; omega, fun k hk => ?_, fun k hk => ?_⟩
  · rw [ByteArray.extract_extract]
    congr 1
    omega
  · rw [ByteArray.extract_extract]
    congr 1 <;> omega

set_option maxRecDepth 100000 in
set_option maxHeartbeats 1000000 in
theorem unwrap_any (s : ByteArray) (hs : s.size ≤ 10000) (w : World) (hT : Tabs w) : Calls Tryd.prog 17 #[.string s] w fun e w' => e = .returned (unwV s) ∧ Below w.heap.size w w' := by
  have he1 := fun v w h => encode_any v [8296] (by decide) w h
  have he2 := fun v w h => encode_any v [8297] (by decide) w h
  unfold EncodeP at he1 he2
  rw [enc_opn] at he1
  rw [enc_cls] at he2
  have hc1 := cutp_any s opnS
  have hc2 := fun h => cuts_any (s.extract 3 s.size) clsS h (by decide)
  have hb := fun h W hW => balanced_any (s.extract 3 (s.size - 3)) h W hW
  unfold BalancedP at hb
  have hx := ext_ext s
  unfold unwV unwB
  unfold cutPV preB at hc1
  unfold cutSV sufB at hc2
  have z1 : opnS.size = 3 := rfl
  have z2 : clsS.size = 3 := rfl
  rw [z1] at hc1
  rw [z2] at hc2
  have HE1 := Lib.hid he1
  have HE2 := Lib.hid he2
  have HT := Lib.hid hT
  clear he1 he2 hT z1 z2
  have fin : ∀ b : Bool, (decide (3 ≤ s.size) && decide (s.extract 0 3 = opnS)) = b → (b = true → 3 ≤ s.size) := by
    intro b h1 h2
    rw [h2] at h1
    simp at h1
    exact h1.1
  obtain ⟨b, hbv⟩ : ∃ b, (decide (3 ≤ s.size) && decide (s.extract 0 3 = opnS)) = b := ⟨_, rfl⟩
  have fin := fin b hbv
  rw [hbv] at hc1
  cases b
  · have e0 : (decide (6 ≤ s.size) && decide (s.extract 0 3 = opnS) && decide (s.extract (s.size - 3) s.size = clsS) && balB (s.extract 3 (s.size - 3))) = false := by
      by_cases h6 : 6 ≤ s.size
      · rw [decide_eq_true (by omega), Bool.true_and] at hbv
        rw [hbv]
        simp
      · rw [decide_eq_false h6]
        simp
    rw [e0]
    rw [if_neg (by simp)] at hc1
    rw [if_neg (by simp)]
    have HC1 := Lib.hid hc1
    clear hc1 hc2 hb hbv e0 fin hx
    go_enter Tryd.func17, Tryd.ntmps17
    go_wp2_with fail
    refine (HE1.out (.slice (some ⟨_, 0, none⟩) 1 1) _ ((IsInts.new _ 3 [8296]).more (by simp))).mono ?_
    rintro e w1 ⟨rfl, hb1⟩
    have HB1 := Lib.hid (((Below.refl _ _).alloc (Nat.le_refl _) _).trans (hb1.mono (by simp)) : Below w.heap.size w w1)
    clear hb1
    go_wp2_with fail
    refine (HC1.out _).mono ?_
    rintro e wq ⟨rfl, rfl⟩
    go_wp2
    go_ret2
    exact ⟨rfl, HB1.out⟩
  · have h3 := fin rfl
    obtain ⟨x1, x2, x3⟩ := hx h3
    rw [if_pos rfl] at hc1
    have hc2 := hc2 (by rw [x1]; omega)
    rw [x1] at hc2
    have hq : (decide (3 ≤ s.size - 3) && decide ((s.extract 3 s.size).extract (s.size - 3 - 3) (s.size - 3) = clsS)) = (decide (6 ≤ s.size) && decide (s.extract (s.size - 3) s.size = clsS)) := by
      by_cases h6 : 6 ≤ s.size
      · rw [decide_eq_true h6, decide_eq_true (by omega : 3 ≤ s.size - 3), x3 3 (by omega)]
      · rw [decide_eq_false h6, decide_eq_false (by omega : ¬ 3 ≤ s.size - 3), Bool.false_and, Bool.false_and]
    rw [hq] at hc2
    have e0 : (decide (6 ≤ s.size) && decide (s.extract 0 3 = opnS) && decide (s.extract (s.size - 3) s.size = clsS) && balB (s.extract 3 (s.size - 3))) = ((decide (6 ≤ s.size) && decide (s.extract (s.size - 3) s.size = clsS)) && balB (s.extract 3 (s.size - 3))) := by
      rw [decide_eq_true h3, Bool.true_and] at hbv
      rw [hbv, Bool.and_true]
    rw [e0]
    have h6 : (decide (6 ≤ s.size) && decide (s.extract (s.size - 3) s.size = clsS)) = true → 6 ≤ s.size := by
      intro h
      simp at h
      exact h.1
    obtain ⟨c, hcv⟩ : ∃ c, (decide (6 ≤ s.size) && decide (s.extract (s.size - 3) s.size = clsS)) = c := ⟨_, rfl⟩
    rw [hcv] at hc2 h6
    rw [hcv]
    obtain ⟨r, hr⟩ : ∃ r, s.extract 3 s.size = r := ⟨_, rfl⟩
    rw [hr] at hc1 hc2 x2
    have HC1 := Lib.hid hc1
    clear hc1 fin hbv hq e0 hcv x1 x3 hx hr
    cases c
    · rw [if_neg (by simp)] at hc2
      have HC2 := Lib.hid hc2
      clear hc2 hb h6 x2
      rw [Bool.false_and, if_neg (by simp)]
      go_enter Tryd.func17, Tryd.ntmps17
      go_wp2_with fail
      refine (HE1.out (.slice (some ⟨_, 0, none⟩) 1 1) _ ((IsInts.new _ 3 [8296]).more (by simp))).mono ?_
      rintro e w1 ⟨rfl, hb1⟩
      have HB1 := Lib.hid (((Below.refl _ _).alloc (Nat.le_refl _) _).trans (hb1.mono (by simp)) : Below w.heap.size w w1)
      clear hb1
      go_wp2_with fail
      refine (HC1.out _).mono ?_
      rintro e wq ⟨rfl, rfl⟩
      go_wp2_with fail
      refine (HE2.out (.slice (some ⟨_, 0, none⟩) 1 1) _ ((IsInts.new _ 3 [8297]).more (by simp))).mono ?_
      rintro e w3 ⟨rfl, hb3⟩
      have HB3 := Lib.hid ((HB1.out.alloc HB1.out.size _).trans (hb3.mono (by have := HB1.out.size; simp; omega)))
      clear hb3
      go_wp2_with fail
      refine (HC2.out _).mono ?_
      rintro e wq ⟨rfl, rfl⟩
      go_wp2
      go_ret2
      exact ⟨rfl, HB3.out⟩
    · have h6 := h6 rfl
      rw [if_pos rfl] at hc2
      have e3 : r.extract 0 (s.size - 3 - 3) = s.extract 3 (s.size - 3) := by
        rw [x2 (s.size - 3 - 3) (by omega)]
        congr 1
        omega
      rw [e3] at hc2
      rw [Bool.true_and]
      have hb := hb (by rw [ByteArray.size_extract]; omega)
      obtain ⟨u, hu⟩ : ∃ u, s.extract 3 (s.size - 3) = u := ⟨_, rfl⟩
      rw [hu] at hc2
      simp only [hu] at hb
      rw [hu]
      obtain ⟨d, hd⟩ : ∃ d, balB u = d := ⟨_, rfl⟩
      simp only [hd] at hb
      rw [hd]
      have HC2 := Lib.hid hc2
      have HB := Lib.hid hb
      clear hc2 hb h6 x2 e3 hu hd
      cases d
      · rw [if_neg (by simp)]
        go_enter Tryd.func17, Tryd.ntmps17
        go_wp2_with fail
        refine (HE1.out (.slice (some ⟨_, 0, none⟩) 1 1) _ ((IsInts.new _ 3 [8296]).more (by simp))).mono ?_
        rintro e w1 ⟨rfl, hb1⟩
        have HB1 := Lib.hid (((Below.refl _ _).alloc (Nat.le_refl _) _).trans (hb1.mono (by simp)) : Below w.heap.size w w1)
        clear hb1
        go_wp2_with fail
        refine (HC1.out _).mono ?_
        rintro e wq ⟨rfl, rfl⟩
        go_wp2_with fail
        refine (HE2.out (.slice (some ⟨_, 0, none⟩) 1 1) _ ((IsInts.new _ 3 [8297]).more (by simp))).mono ?_
        rintro e w3 ⟨rfl, hb3⟩
        have HB3 := Lib.hid ((HB1.out.alloc HB1.out.size _).trans (hb3.mono (by have := HB1.out.size; simp; omega)))
        clear hb3
        go_wp2_with fail
        refine (HC2.out _).mono ?_
        rintro e wq ⟨rfl, rfl⟩
        go_wp2_with fail
        refine (HB.out _ (HT.out.below HB3.out)).mono ?_
        rintro e w4 ⟨rfl, hb4⟩
        have HB4 := Lib.hid (HB3.out.trans (hb4.mono HB3.out.size))
        clear hb4
        go_wp2
        go_ret2
        exact ⟨rfl, HB4.out⟩
      · rw [if_pos rfl]
        go_enter Tryd.func17, Tryd.ntmps17
        go_wp2_with fail
        refine (HE1.out (.slice (some ⟨_, 0, none⟩) 1 1) _ ((IsInts.new _ 3 [8296]).more (by simp))).mono ?_
        rintro e w1 ⟨rfl, hb1⟩
        have HB1 := Lib.hid (((Below.refl _ _).alloc (Nat.le_refl _) _).trans (hb1.mono (by simp)) : Below w.heap.size w w1)
        clear hb1
        go_wp2_with fail
        refine (HC1.out _).mono ?_
        rintro e wq ⟨rfl, rfl⟩
        go_wp2_with fail
        refine (HE2.out (.slice (some ⟨_, 0, none⟩) 1 1) _ ((IsInts.new _ 3 [8297]).more (by simp))).mono ?_
        rintro e w3 ⟨rfl, hb3⟩
        have HB3 := Lib.hid ((HB1.out.alloc HB1.out.size _).trans (hb3.mono (by have := HB1.out.size; simp; omega)))
        clear hb3
        go_wp2_with fail
        refine (HC2.out _).mono ?_
        rintro e wq ⟨rfl, rfl⟩
        go_wp2_with fail
        refine (HB.out _ (HT.out.below HB3.out)).mono ?_
        rintro e w4 ⟨rfl, hb4⟩
        have HB4 := Lib.hid (HB3.out.trans (hb4.mono HB3.out.size))
        clear hb4
        go_wp2
        go_ret2
        exact ⟨rfl, HB4.out⟩

set_option maxRecDepth 100000 in
set_option maxHeartbeats 1000000 in
theorem refunwrap_any (s : ByteArray) (hs : s.size ≤ 10000) (w : World) : Calls Tryd.prog 18 #[.string s] w fun e w' => e = .returned (unwV s) ∧ Below w.heap.size w w' := by
  have hb := fun h => refbalanced_any (s.extract 3 (s.size - 3)) h
  unfold BalancedP at hb
  unfold unwV unwB
  by_cases h6 : 6 ≤ s.size
  · have hb := hb (by rw [ByteArray.size_extract]; omega)
    have e1 : ((s.size : Int) - 3).toNat = s.size - 3 := by omega
    have z1 : opnS.toList = [226, 129, 168] := by rw [ByteArray.toList_eq]; rfl
    have z2 : clsS.toList = [226, 129, 169] := by rw [ByteArray.toList_eq]; rfl
    rw [decide_eq_true h6, Bool.true_and, ← same_bytes, ← same_bytes, z1, z2]
    obtain ⟨p, hp⟩ : ∃ p, s.extract 0 3 = p := ⟨_, rfl⟩
    obtain ⟨q, hq⟩ : ∃ q, s.extract (s.size - 3) s.size = q := ⟨_, rfl⟩
    obtain ⟨u, hu⟩ : ∃ u, s.extract 3 (s.size - 3) = u := ⟨_, rfl⟩
    rw [hu] at hb
    obtain ⟨x, hx⟩ : ∃ x, (p.toList == [226, 129, 168]) = x := ⟨_, rfl⟩
    obtain ⟨y, hy⟩ : ∃ y, (q.toList == [226, 129, 169]) = y := ⟨_, rfl⟩
    obtain ⟨d, hd⟩ : ∃ d, balB u = d := ⟨_, rfl⟩
    rw [hd] at hb
    rw [hp, hq, hu, hx, hy, hd]
    have HB := Lib.hid hb
    clear hb hd
    cases x
    · go_enter Tryd.func18, Tryd.ntmps18
      go_wp2
      go_ret2
      exact ⟨rfl, Below.refl _ _⟩
    · cases y
      · go_enter Tryd.func18, Tryd.ntmps18
        go_wp2
        go_ret2
        exact ⟨rfl, Below.refl _ _⟩
      · cases d
        · go_enter Tryd.func18, Tryd.ntmps18
          go_wp2_with fail
          refine (HB.out _).mono ?_
          rintro e w1 ⟨rfl, hb1⟩
          have HB1 := Lib.hid hb1
          clear hb1
          go_wp2
          go_ret2
          exact ⟨rfl, HB1.out⟩
        · go_enter Tryd.func18, Tryd.ntmps18
          go_wp2_with fail
          refine (HB.out _).mono ?_
          rintro e w1 ⟨rfl, hb1⟩
          have HB1 := Lib.hid hb1
          clear hb1
          go_wp2
          go_ret2
          exact ⟨rfl, HB1.out⟩
  · rw [decide_eq_false h6]
    clear hb
    go_enter Tryd.func18, Tryd.ntmps18
    go_wp2
    go_ret2
    exact ⟨rfl, Below.refl _ _⟩
end Go.Proofs.YtgefbagojghmeaaDoor
