/-
  calqueref25.plainText: the first token of a text in the text mode.
-/
import Derived.Test.YtpjafemkdoeflaaTk8
import Derived.Lib.BufferMore
namespace Go.Proofs.Ytpjafemkdoeflaa
open Go.RowKit

/-- The token, a close brace without an open one being none. -/
def plO (d : Nat) (c : UInt8) (r : By) : Option (Nat × By × Nat) := if c = 125 ∧ d = 0 then none else tok1 false (c :: r)
theorem plainN_spec {c : UInt8} {r : By} (h : spB c = true) (h9 : c ≠ 92) : plainN (c :: r) = 0 := plainN_sp h (.inl h9)
theorem plO_text {d : Nat} {c : UInt8} {r : By} (h : plainN (c :: r) ≠ 0) : plO d c r = some (1, (c :: r).take (plainN (c :: r)), plainN (c :: r)) := by
  have h1 : c ≠ 123 := by rintro rfl; exact h (plainN_spec (by decide) (by decide))
  have h2 : c ≠ 125 := by rintro rfl; exact h (plainN_spec (by decide) (by decide))
  have h3 : c ≠ 35 := by rintro rfl; exact h (plainN_spec (by decide) (by decide))
  have h4 : c ≠ 60 := by rintro rfl; exact h (plainN_spec (by decide) (by decide))
  unfold plO
  rw [if_neg (fun h => h2 h.1), tok1_text h1 h2 h3 h4, if_neg h]
theorem plO_mark {d : Nat} {c : UInt8} {r : By} (h : plainN (c :: r) = 0) (h1 : c ≠ 123) (h2 : ¬ (c = 125 ∧ d ≠ 0)) (h3 : c ≠ 35) : plO d c r = markO c r := by
  unfold plO markO
  by_cases c2 : c = 125
  · subst c2
    have hd0 : d = 0 := by
      by_cases h0 : d = 0
      · exact h0
      · exact absurd ⟨rfl, h0⟩ h2
    rw [if_pos ⟨rfl, hd0⟩, if_neg (by decide)]
  · rw [if_neg (fun h => c2 h.1)]
    by_cases c4 : c = 60
    · subst c4
      rw [if_pos rfl, tok1_el]
    · rw [if_neg c4, tok1_text h1 c2 h3 c4, if_pos h]

/-- A block of four cells of the call's own, stored cell by cell. -/
theorem row4 {W : World} {g : Nat} {a0 a1 a2 a3 v0 v1 v2 v3 : Value} {t : TypeId} (h : W.heap[g]? = some (.cells #[a0, a1, a2, a3] t (0, 0))) :
    W.cell? ⟨g, 0, none⟩ = some a0 ∧ W.frozen? ⟨g, 0, none⟩ = false ∧
    (W.setCell ⟨g, 0, none⟩ v0).cell? ⟨g, 1, none⟩ = some a1 ∧ (W.setCell ⟨g, 0, none⟩ v0).frozen? ⟨g, 1, none⟩ = false ∧
    ((W.setCell ⟨g, 0, none⟩ v0).setCell ⟨g, 1, none⟩ v1).cell? ⟨g, 2, none⟩ = some a2 ∧ ((W.setCell ⟨g, 0, none⟩ v0).setCell ⟨g, 1, none⟩ v1).frozen? ⟨g, 2, none⟩ = false ∧
    (((W.setCell ⟨g, 0, none⟩ v0).setCell ⟨g, 1, none⟩ v1).setCell ⟨g, 2, none⟩ v2).cell? ⟨g, 3, none⟩ = some a3 ∧ (((W.setCell ⟨g, 0, none⟩ v0).setCell ⟨g, 1, none⟩ v1).setCell ⟨g, 2, none⟩ v2).frozen? ⟨g, 3, none⟩ = false ∧
    ((((W.setCell ⟨g, 0, none⟩ v0).setCell ⟨g, 1, none⟩ v1).setCell ⟨g, 2, none⟩ v2).setCell ⟨g, 3, none⟩ v3).heap[g]? = some (.cells #[v0, v1, v2, v3] t (0, 0)) := by
  have s1 := Lib.heap_setCell_same (i := 0) (v := v0) h
  have s2 := Lib.heap_setCell_same (i := 1) (v := v1) s1
  have s3 := Lib.heap_setCell_same (i := 2) (v := v2) s2
  have s4 := Lib.heap_setCell_same (i := 3) (v := v3) s3
  refine ⟨?_, Lib.frozen_of_heap h 0, ?_, Lib.frozen_of_heap s1 1, ?_, Lib.frozen_of_heap s2 2, ?_, Lib.frozen_of_heap s3 3, s4⟩
  · rw [Lib.cell_of_heap h]; rfl
  · rw [Lib.cell_of_heap s1]; rfl
  · rw [Lib.cell_of_heap s2]; rfl
  · rw [Lib.cell_of_heap s3]; rfl
theorem below4 {a W : World} {B g : Nat} {v0 v1 v2 v3 : Value} (h : Below B a W) (hg : B ≤ g) : Below B a ((((W.setCell ⟨g, 0, none⟩ v0).setCell ⟨g, 1, none⟩ v1).setCell ⟨g, 2, none⟩ v2).setCell ⟨g, 3, none⟩ v3) :=
  (((h.setCell (p := ⟨g, 0, none⟩) hg v0).setCell (p := ⟨g, 1, none⟩) hg v1).setCell (p := ⟨g, 2, none⟩) hg v2).setCell (p := ⟨g, 3, none⟩) hg v3

set_option maxRecDepth 100000 in
set_option maxHeartbeats 4000000 in
theorem plainText_any (l : By) (p d : Nat) (c : UInt8) (r : By) (hd : l.drop p = c :: r) (hl : l.length ≤ 100000) (w : World) : Calls Try.prog 22 #[.string (ba l), .int .i64 p, .int .i64 d] w (TokP (tokO p (plO d c r)) w) := by
  have hmk := fun W => mark_any l p c r hd hl W
  unfold MarkP at hmk
  unfold TokP at hmk ⊢
  obtain ⟨hp, hdr, hc⟩ := drop_at hd
  have hsz : (ba l).size = l.length := rfl
  have hps : p < (ba l).size := hp
  have hc := hc hps
  have hx : ((ba l)[p]'hps).toNat = c.toNat := by rw [hc]
  have p0 : (p : Int) < ((ba l).size : Int) := by omega
  have p1 : (0 : Int) ≤ (p : Int) := by omega
  have htx := fun W => text_any (ba l) (by rw [hsz]; omega) p (by omega) W
  unfold NumP at htx
  rw [ba_list, hd] at htx
  have hcut : (ba l).extract p (p + plainN (c :: r)) = ba ((c :: r).take (plainN (c :: r))) := by
    rw [ba_ext (ba_list l), hd, Nat.add_sub_cancel_left]
  have hle := plainN_le (c :: r)
  have hdl := congrArg List.length hd
  rw [List.length_drop] at hdl
  have hv1 := plO_text (d := d) (c := c) (r := r)
  have hv2 := plO_mark (d := d) (c := c) (r := r)
  obtain ⟨n, hn⟩ : ∃ n, plainN (c :: r) = n := ⟨_, rfl⟩
  rw [hn] at htx hcut hle hv1 hv2
  obtain ⟨V, hV⟩ : ∃ V, tokV (tokO p (plO d c r)) = V := ⟨_, rfl⟩
  rw [hV]
  have HV := Lib.hid hV
  have HT := Lib.hid htx
  have hnl : p + n ≤ l.length := by omega
  by_cases hn0 : n = 0
  · subst hn0
    have hv2 := hv2 rfl
    clear hcut hv1 hle hdl hd hdr hc htx hV
    by_cases c1 : c = 123
    · subst c1
      have hvx : V = tokV (tokO p (some (2, [123], 1))) := HV.out.symm
      have HV2 := Lib.hid hvx
      clear hmk hv2 hvx
      go_enter Try.func22, Try.ntmps22
      go_wp2_with fail
      refine (HT.out _).mono ?_
      rintro e w1 ⟨rfl, rfl⟩
      go_wp2
      refine bodyPost_ret (results_cell_row rfl _ _ w.heap.size _ _ _ _ rfl (heap_alloc_new w _) Try.underlying36 rfl (by kernel_rfl)) rfl ?_
      exact ⟨tok_eq1 2 HV2.out rfl, (Below.refl _ _).alloc (Nat.le_refl _) _⟩
    have d1 : ((c.toNat : Int) == 123) = false := by
      have := ne_num (c := c) (d := 123) (n := 123) rfl c1
      simpa using this
    by_cases c2 : c = 125 ∧ d ≠ 0
    · obtain ⟨rfl, hd0⟩ := c2
      have hvx : V = tokV (tokO p (some (3, [125], 1))) := by rw [← HV.out]; unfold plO; rw [if_neg (fun h => hd0 h.2)]; rfl
      have HV2 := Lib.hid hvx
      have dd : (0 : Int) < (d : Int) := by omega
      clear hmk hv2 hvx
      go_enter Try.func22, Try.ntmps22
      go_wp2_with fail
      refine (HT.out _).mono ?_
      rintro e w1 ⟨rfl, rfl⟩
      go_wp2
      refine bodyPost_ret (results_cell_row rfl _ _ w.heap.size _ _ _ _ rfl (heap_alloc_new w _) Try.underlying36 rfl (by kernel_rfl)) rfl ?_
      exact ⟨tok_eq1 3 HV2.out rfl, (Below.refl _ _).alloc (Nat.le_refl _) _⟩
    by_cases c3 : c = 35
    · subst c3
      have hvx : V = tokV (tokO p (some (4, [35], 1))) := HV.out.symm
      have HV2 := Lib.hid hvx
      clear hmk hv2 hvx
      go_enter Try.func22, Try.ntmps22
      go_wp2_with fail
      refine (HT.out _).mono ?_
      rintro e w1 ⟨rfl, rfl⟩
      go_wp2
      refine bodyPost_ret (results_cell_row rfl _ _ w.heap.size _ _ _ _ rfl (heap_alloc_new w _) Try.underlying36 rfl (by kernel_rfl)) rfl ?_
      exact ⟨tok_eq1 4 HV2.out rfl, (Below.refl _ _).alloc (Nat.le_refl _) _⟩
    have d3 : ((c.toNat : Int) == 35) = false := by
      have := ne_num (c := c) (d := 35) (n := 35) rfl c3
      simpa using this
    have hv2 := hv2 c1 c2 c3
    obtain ⟨o, ho⟩ : ∃ o, markO c r = o := ⟨_, rfl⟩
    rw [ho] at hv2
    simp only [ho] at hmk
    have hvv := HV.out
    rw [hv2] at hvv
    have HV2 := Lib.hid hvv
    have d2 : (((c.toNat : Int) == 125) = false) ∨ (((c.toNat : Int) == 125) = true ∧ ¬ (0 : Int) < (d : Int)) := by
      by_cases h : c = 125
      · right
        subst h
        exact ⟨rfl, by have : d = 0 := by
                         by_cases h0 : d = 0
                         · exact h0
                         · exact absurd ⟨rfl, h0⟩ c2
                       omega⟩
      · left
        have := ne_num (c := c) (d := 125) (n := 125) rfl h
        simpa using this
    cases o with
    | none =>
      unfold tokO tokV at hmk
      have HM := Lib.hid hmk
      clear hmk hv2 ho hvv c2
      rcases d2 with d2 | ⟨d2, d4⟩
      all_goals
        go_enter Try.func22, Try.ntmps22
        go_wp2_with fail
        refine (HT.out _).mono ?_
        rintro e w1 ⟨rfl, rfl⟩
        go_wp2_with fail
        refine (HM.out _).mono ?_
        rintro e w1 ⟨rfl, hb⟩
        have hbl : Below w.heap.size w w1 := ((Below.refl _ _).alloc (Nat.le_refl _) _).trans (hb.mono (by simp))
        have hrow := (hb.block w.heap.size (by simp)).trans (tok_none w 36)
        obtain ⟨m1, m2, m3, m4, m5, m6, m7, m8, m9⟩ := row4 (v0 := .int .i64 0) (v1 := .string ⟨#[]⟩) (v2 := .int .i64 0) (v3 := .int .i64 0) hrow
        have HBL := Lib.hid (below4 (v0 := .int .i64 0) (v1 := .string ⟨#[]⟩) (v2 := .int .i64 0) (v3 := .int .i64 0) hbl (Nat.le_refl w.heap.size))
        clear hb hbl hrow
        go_wp2
        refine bodyPost_ret (results_cell_row rfl _ _ w.heap.size _ _ _ _ rfl m9 Try.underlying36 rfl (by kernel_rfl)) rfl ?_
        exact ⟨tok_eq0 HV2.out.symm, HBL.out⟩
    | some q =>
      obtain ⟨k, t, z⟩ := q
      unfold tokO tokV at hmk
      have HM := Lib.hid hmk
      clear hmk hv2 ho hvv c2
      rcases d2 with d2 | ⟨d2, d4⟩
      all_goals
        go_enter Try.func22, Try.ntmps22
        go_wp2_with fail
        refine (HT.out _).mono ?_
        rintro e w1 ⟨rfl, rfl⟩
        go_wp2_with fail
        refine (HM.out _).mono ?_
        rintro e w1 ⟨rfl, hb⟩
        have hbl : Below w.heap.size w w1 := ((Below.refl _ _).alloc (Nat.le_refl _) _).trans (hb.mono (by simp))
        have hrow := (hb.block w.heap.size (by simp)).trans (tok_none w 36)
        obtain ⟨m1, m2, m3, m4, m5, m6, m7, m8, m9⟩ := row4 (v0 := .int .i64 k) (v1 := .string (ba t)) (v2 := .int .i64 p) (v3 := .int .i64 ((p + z : Nat) : Int)) hrow
        have HBL := Lib.hid (below4 (v0 := .int .i64 k) (v1 := .string (ba t)) (v2 := .int .i64 p) (v3 := .int .i64 ((p + z : Nat) : Int)) hbl (Nat.le_refl w.heap.size))
        clear hb hbl hrow
        go_wp2
        refine bodyPost_ret (results_cell_row rfl _ _ w.heap.size _ _ _ _ rfl m9 Try.underlying36 rfl (by kernel_rfl)) rfl ?_
        exact ⟨tok_eq' k HV2.out.symm rfl rfl, HBL.out⟩
  · have hv1 := hv1 hn0
    have hvv := HV.out
    rw [hv1] at hvv
    have HV2 := Lib.hid hvv.symm
    have HCUT := Lib.hid hcut
    have hpn : (p : Int) < (p : Int) + (n : Int) := by omega
    clear hmk hv2 hv1 hvv hcut hle hdl hd hdr hc htx hV
    go_enter Try.func22, Try.ntmps22
    go_wp2_with fail
    refine (HT.out _).mono ?_
    rintro e w1 ⟨rfl, rfl⟩
    go_wp2
    refine bodyPost_ret (results_cell_row rfl _ _ w.heap.size _ _ _ _ rfl (heap_alloc_new w _) Try.underlying36 rfl (by kernel_rfl)) rfl ?_
    exact ⟨tok_eq' 1 HV2.out HCUT.out rfl, (Below.refl _ _).alloc (Nat.le_refl _) _⟩
end Go.Proofs.Ytpjafemkdoeflaa
