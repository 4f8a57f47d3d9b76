/-
  decide.classes.holds, before.
-/
import Derived.Test.YtbkcmgjmhglghaaGreatDoorWh3
import Derived.StillTailTactics
namespace Go.Proofs.YtbkcmgjmhglghaaGreatDoor
open Go.RowKit

theorem bit_odd (a i : Nat) : ((((a >>> i) &&& 1 : Nat) : Int) == 1) = a.testBit i := by
  rw [Nat.testBit, Bool.eq_iff_iff]
  have : (a >>> i) &&& 1 = 1 ∨ (a >>> i) &&& 1 = 0 := by
    rw [Nat.and_one_is_mod]
    omega
  rw [Nat.and_comm 1]
  rcases this with h | h <;> rw [h] <;> decide
theorem bit_63 (a : Nat) (_h : a < 18446744073709551616) : (a &&& 9223372036854775808 ≠ 0) ↔ a.testBit 63 = true := by
  constructor
  · intro hne
    refine Decidable.byContradiction fun hb => hne ?_
    apply Nat.eq_of_testBit_eq
    intro j
    rw [Nat.testBit_and, show (9223372036854775808 : Nat) = 2 ^ 63 from rfl, Nat.testBit_two_pow, Nat.zero_testBit]
    by_cases hj : 63 = j
    · subst hj
      simp at hb
      simp [hb]
    · simp [hj]
  · intro hb he
    have : (a &&& 9223372036854775808).testBit 63 = true := by
      rw [Nat.testBit_and, hb, show (9223372036854775808 : Nat) = 2 ^ 63 from rfl, Nat.testBit_two_pow]
      rfl
    rw [he] at this
    simp at this
set_option maxRecDepth 100000 in
set_option maxHeartbeats 3200000 in
theorem choldsC_any (gx : Nat) (lv v1 v2 : Value) (l : List Rel) (wp fp : Pt) (i B : Nat) (w : World) (hx : w.heap[gx]? = some (.cells #[lv, v1, v2] 125 (0, 0))) (hv : IsRels w B lv l) (hB : B ≤ w.heap.size) (h60 : l.length ≤ 60) (hi : i < l.length) (hw1 : wp.1 < 18446744073709551616) (hf1 : fp.1 < 18446744073709551616) :
    Calls Tryz.prog 83 #[.pointer (some ⟨gx, 0, none⟩), .agg #[.int .u64 wp.1, .string wp.2], .agg #[.int .u64 fp.1, .string fp.2], .int .i64 i] w fun e w' => e = .returned (.bool (holdB l wp.1 fp.1 i)) ∧ Below w.heap.size w w' := by
  obtain ⟨x0, _, _, _⟩ := three_cells hx
  obtain ⟨wb, ws⟩ := wp
  obtain ⟨fb, fs⟩ := fp
  simp only at hw1 hf1 ⊢
  obtain ⟨ao, cap, svs, rfl, hsv, hq⟩ := rels_fun hv
  obtain ⟨n, hn⟩ : ∃ n, n = l.length := ⟨_, rfl⟩
  rw [← hn] at x0 hq hi h60
  have hlt := hi
  have i0 : (0 : Int) ≤ (i : Int) := by omega
  have i1 : (i : Int) < (n : Int) := by omega
  have i64 : (i : Int) < 64 := by omega
  obtain ⟨r, hr⟩ : ∃ r, l[i]? = some r := ⟨_, List.getElem?_eq_getElem (by omega)⟩
  have er : l.getD i r00 = r := by rw [List.getD_eq_getElem?_getD, hr]; rfl
  have er' : l.getD i ⟨0, 0, false, []⟩ = r := er
  obtain ⟨b, o, rfl, hbB, hcc⟩ := hq (by omega)
  obtain ⟨q0, q1, q2, q3⟩ := hcc i hlt
  rw [er'] at q0 q1 q2
  have hG : holdB l wb fb i = if r.op = 1 ∧ fb.testBit 63 = true then r.nt else if onWh r = true then wb.testBit i else fb.testBit i := by unfold holdB; rw [er]
  obtain ⟨G, hGe⟩ : ∃ G, G = holdB l wb fb i := ⟨_, rfl⟩
  rw [← hGe] at hG ⊢
  have hsp := hsv i r hr
  obtain ⟨op, md, nt, sp⟩ := r
  simp only at q0 q1 q2 hG
  generalize svs i = sv at hsp q3
  have hon := fun W => onWhole_any op md nt sv sp W
  obtain ⟨aS, cS, rfl, _⟩ := hsp
  obtain ⟨m, hm⟩ : ∃ m, m = sp.length := ⟨_, rfl⟩
  rw [← hm] at hon q3
  obtain ⟨OW, hOW⟩ : ∃ OW, OW = onWh ⟨op, md, nt, sp⟩ := ⟨_, rfl⟩
  rw [← hOW] at hon hG
  have hsw := bit_odd wb i
  have hsf := bit_odd fb i
  have h63 := bit_63 fb hf1
  have ha1 := u64_and (a := wb >>> i) (b := 1) (Nat.lt_of_le_of_lt (Nat.shiftRight_le wb i) hw1) (by omega)
  have ha2 := u64_and (a := fb >>> i) (b := 1) (Nat.lt_of_le_of_lt (Nat.shiftRight_le fb i) hf1) (by omega)
  have ha3 := u64_and (a := fb) (b := 9223372036854775808) hf1 (by omega)
  have ha1' : Go.bits .and .u64 ((wb >>> i : Nat) : Int) 1 = ((wb >>> i &&& 1 : Nat) : Int) := ha1
  have ha2' : Go.bits .and .u64 ((fb >>> i : Nat) : Int) 1 = ((fb >>> i &&& 1 : Nat) : Int) := ha2
  have ha3' : Go.bits .and .u64 (fb : Int) 9223372036854775808 = ((fb &&& 9223372036854775808 : Nat) : Int) := ha3
  obtain ⟨N3, hN3⟩ : ∃ N3, N3 = fb &&& 9223372036854775808 := ⟨_, rfl⟩
  rw [← hN3] at ha3'
  obtain ⟨X1, hX1⟩ : ∃ X, X = wb.testBit i := ⟨_, rfl⟩
  obtain ⟨X2, hX2⟩ : ∃ X, X = fb.testBit i := ⟨_, rfl⟩
  obtain ⟨X3, hX3⟩ : ∃ X, X = fb.testBit 63 := ⟨_, rfl⟩
  rw [← hX1, ← hX2, ← hX3] at hG
  rw [← hX1] at hsw
  rw [← hX2] at hsf
  have h3 : ((N3 : Int) == 0) = !X3 := by
    rw [hX3, hN3]
    by_cases hb : fb.testBit 63 = true
    · rw [hb]
      have := (bit_63 fb hf1).2 hb
      simp only [Bool.not_true, beq_eq_false_iff_ne, ne_eq]
      omega
    · have h0 : fb &&& 9223372036854775808 = 0 := Decidable.byContradiction fun h => hb ((bit_63 fb hf1).1 h)
      rw [h0]
      simp at hb
      rw [hb]
      rfl
  have h3' : ((N3 : Int) != 0) = X3 := by unfold bne; rw [h3, Bool.not_not]
  clear h3
  have hdv : ∀ x : Nat, ((x : Int) / 2 ^ i) = ((x >>> i : Nat) : Int) := fun x => by
    rw [Nat.shiftRight_eq_div_pow]
    simp
  have hs1 : (Go.bits .and .u64 ((wb : Int) / 2 ^ i) 1 == 1) = X1 := by rw [hdv, ha1', hsw]
  have hs2 : (Go.bits .and .u64 ((fb : Int) / 2 ^ i) 1 == 1) = X2 := by rw [hdv, ha2', hsf]
  have HS1 := Lib.hid hs1
  have HS2 := Lib.hid hs2
  have HON := Lib.hid hon
  have HG := Lib.hid hG
  clear ha1' ha2' hsw hsf hs1 hs2 hdv hx hv hr er er' hq hcc hG hGe hsv hon hm hOW h63 ha1 ha2 ha3 hn hN3 hX1 hX2 hX3
  obtain ⟨w1, hw1⟩ : ∃ w1, w1 = (w.alloc (.cells #[.int .u64 (wb : Int), .string ws] 133)).alloc (.cells #[.int .u64 (fb : Int), .string fs] 133) := ⟨_, rfl⟩
  obtain ⟨p0, p1, pb, ps⟩ := alloc2 w #[.int .u64 (wb : Int), .string ws] #[.int .u64 (fb : Int), .string fs] 133 133
  rw [← hw1] at p0 p1 pb ps
  have blt : b < w.heap.size := by omega
  have a0 := (pb.cell (p := ⟨b, o + i * 4, none⟩) blt).trans q0
  have a1 := (pb.cell (p := ⟨b, o + i * 4 + 1, none⟩) blt).trans q1
  have a2 := (pb.cell (p := ⟨b, o + i * 4 + 2, none⟩) blt).trans q2
  have a3 := (pb.cell (p := ⟨b, o + i * 4 + 3, none⟩) blt).trans q3
  have xx := (pb.cell (p := ⟨gx, 0, none⟩) (World.block_lt_of_cell? w _ x0)).trans x0
  obtain ⟨w2, hw2⟩ : ∃ w2, w2 = w1.alloc (.cells #[.int .i64 op, .int .i64 md, .bool nt, .slice aS m cS] 51) := ⟨_, rfl⟩
  have hb2 : Below w1.heap.size w1 w2 := by rw [hw2]; exact (Below.refl _ _).alloc (Nat.le_refl _) _
  have r0 : w2.heap[w1.heap.size]? = some (.cells #[.int .i64 op, .int .i64 md, .bool nt, .slice aS m cS] 51 (0, 0)) := by rw [hw2]; exact heap_alloc_new w1 _
  obtain ⟨k0, k1, k2, k3⟩ := rel_cells r0
  obtain ⟨m0, m1⟩ := part_cells ((hb2.block _ (by omega)).trans p0)
  obtain ⟨m2, m3⟩ := part_cells ((hb2.block _ (by omega)).trans p1)
  have PS := Lib.hid ps
  have PB := Lib.hid (pb.trans (hb2.mono pb.size))
  clear p0 p1 pb ps q0 q1 q2 q3 hb2 r0 blt x0 hlt hi
  go_enter Tryz.func83, Tryz.ntmps83
  go_upto_region 1 with fail
  rw [← hw1]
  clear hw1
  go_upto_region 2 with fail
  rw [← hw2]
  clear hw2
  have hc8 := fun (W : World) (hb : Below w2.heap.size w2 W) p u (h : w2.cell? p = some u) => (hb.cell (p := p) (World.block_lt_of_cell? w2 _ h)).trans h
  have HC8 := Lib.hid hc8
  clear hc8
  by_cases h1 : op = 1
  · subst h1
    cases X3
    · cases OW
      all_goals
        go_wp2_with (go_at_call 76; refine (HON.out _).mono ?_; rintro e w8 ⟨rfl, hb8⟩; have n0 := HC8.out _ hb8 _ _ m0; have n2 := HC8.out _ hb8 _ _ m2; have HB8 := Lib.hid (PB.out.trans (hb8.mono PB.out.size)); clear hb8)
        go_ret
        refine ⟨?_, HB8.out⟩
        first | rw [HS1.out] | rw [HS2.out]
        rw [HG.out]
        simp
    · go_wp2
      go_ret
      refine ⟨?_, PB.out⟩
      rw [HG.out]
      simp
  · have h1' : (op == 1) = false := by simp [h1]
    cases OW
    all_goals
      go_wp2_with (go_at_call 76; refine (HON.out _).mono ?_; rintro e w8 ⟨rfl, hb8⟩; have n0 := HC8.out _ hb8 _ _ m0; have n2 := HC8.out _ hb8 _ _ m2; have HB8 := Lib.hid (PB.out.trans (hb8.mono PB.out.size)); clear hb8)
      go_ret
      refine ⟨?_, HB8.out⟩
      first | rw [HS1.out] | rw [HS2.out]
      rw [HG.out]
      simp [h1]
end Go.Proofs.YtbkcmgjmhglghaaGreatDoor
