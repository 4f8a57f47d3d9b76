/-
  decide.classes: the bits of relations that hold; what lies in memory.
-/
import Derived.Test.YtbkcmgjmhglghaaGreatDoorWf3
import Derived.Test.YtbkcmgjmhglghaaGreatDoorWx0
import Derived.Test.YtbkcmgjmhglghaaGreatDoorWd1
namespace Go.Proofs.YtbkcmgjmhglghaaGreatDoor
open Go.RowKit

def bitsN (f : Nat → Bool) : Nat → Nat
  | 0 => 0
  | n + 1 => if f n = true then bitsN f n ||| 2 ^ n else bitsN f n
theorem bitsN_lt (f : Nat → Bool) (n : Nat) : bitsN f n < 2 ^ n := by
  induction n with
  | zero => simp [bitsN]
  | succ n ih =>
    have h1 : bitsN f n < 2 ^ (n + 1) := Nat.lt_trans ih (Nat.pow_lt_pow_right (by omega) (by omega))
    unfold bitsN
    split
    · exact Nat.or_lt_two_pow h1 (Nat.pow_lt_pow_right (by omega) (by omega))
    · exact h1
theorem bitsN_test (f : Nat → Bool) (n i : Nat) : (bitsN f n).testBit i = (decide (i < n) && f i) := by
  induction n with
  | zero => simp [bitsN]
  | succ n ih =>
    unfold bitsN
    by_cases hf : f n = true
    · rw [if_pos hf, Nat.testBit_or, ih, Nat.testBit_two_pow]
      by_cases he : n = i
      · subst he
        simp [hf]
      · by_cases hi : i < n
        · simp [hi, he]
          omega
        · have : ¬ i < n + 1 := by omega
          simp [hi, he, this]
    · rw [if_neg hf, ih]
      by_cases he : n = i
      · subst he
        simp [hf]
      · by_cases hi : i < n
        · simp [hi]
          omega
        · have : ¬ i < n + 1 := by omega
          simp [hi, this]
def r00 : Rel := ⟨0, 0, false, []⟩
def bitF (l : List Rel) (bh : Bool) (ts : List Tr) (i : Nat) : Bool := (onWh (l.getD i r00) != bh) && trHolds (l.getD i r00) (ts.getD i (0, 0))
def bitsOf (l : List Rel) (bh : Bool) (ts : List Tr) : Nat := bitsN (bitF l bh ts) l.length
theorem u64_or {a b : Nat} (ha : a < 18446744073709551616) (hb : b < 18446744073709551616) : Go.bits .or .u64 (a : Int) (b : Int) = ((a ||| b : Nat) : Int) := by
  have h := Nat.or_lt_two_pow (n := 64) (x := a) (y := b) (by omega) (by omega)
  simp only [Go.bits]
  have e1 : (BitVec.ofInt IntKind.u64.bits (a : Int)) = BitVec.ofNat 64 a := by simp [IntKind.bits]
  have e2 : (BitVec.ofInt IntKind.u64.bits (b : Int)) = BitVec.ofNat 64 b := by simp [IntKind.bits]
  rw [e1, e2]
  show IntKind.u64.wrap (((BitVec.ofNat 64 a ||| BitVec.ofNat 64 b).toNat : Nat) : Int) = _
  rw [BitVec.toNat_or, BitVec.toNat_ofNat, BitVec.toNat_ofNat, Nat.mod_eq_of_lt (by omega), Nat.mod_eq_of_lt (by omega)]
  simp [IntKind.wrap, IntKind.bits, IntKind.signed]
  omega
theorem u64_and {a b : Nat} (ha : a < 18446744073709551616) (hb : b < 18446744073709551616) : Go.bits .and .u64 (a : Int) (b : Int) = ((a &&& b : Nat) : Int) := by
  have h : a &&& b ≤ a := Nat.and_le_left
  simp only [Go.bits]
  have e1 : (BitVec.ofInt IntKind.u64.bits (a : Int)) = BitVec.ofNat 64 a := by simp [IntKind.bits]
  have e2 : (BitVec.ofInt IntKind.u64.bits (b : Int)) = BitVec.ofNat 64 b := by simp [IntKind.bits]
  rw [e1, e2]
  show IntKind.u64.wrap (((BitVec.ofNat 64 a &&& BitVec.ofNat 64 b).toNat : Nat) : Int) = _
  rw [BitVec.toNat_and, BitVec.toNat_ofNat, BitVec.toNat_ofNat, Nat.mod_eq_of_lt (by omega), Nat.mod_eq_of_lt (by omega)]
  simp [IntKind.wrap, IntKind.bits, IntKind.signed]
  omega
theorem u64_shl {i : Nat} (h : i ≤ 60) : IntKind.u64.wrap (2 ^ i) = ((2 ^ i : Nat) : Int) := by
  have h1 : 2 ^ i ≤ 2 ^ 60 := Nat.pow_le_pow_right (by omega) h
  simp [IntKind.wrap, IntKind.bits, IntKind.signed]
  have h2 : ((2 ^ i : Nat) : Int) = (2 : Int) ^ i := by simp
  rw [← h2]
  exact Int.emod_eq_of_lt (Int.natCast_nonneg _) (by omega)
/-- Trackers in a block of their own. -/
def TrAt (W : World) (b : Nat) (ts : List Tr) : Prop := W.heap[b]? = some (.cells (ts.flatMap trC).toArray 70 (0, 0))
theorem TrAt.cell {W : World} {b : Nat} {ts : List Tr} (h : TrAt W b ts) {i : Nat} {t : Tr} (ht : ts[i]? = some t) : W.cell? ⟨b, i * 2, none⟩ = some (.int .i64 t.1) ∧ W.cell? ⟨b, i * 2 + 1, none⟩ = some (.int .i64 t.2) ∧ W.frozen? ⟨b, i * 2, none⟩ = false ∧ W.frozen? ⟨b, i * 2 + 1, none⟩ = false := by
  refine ⟨?_, ?_, Lib.frozen_of_heap h _, Lib.frozen_of_heap h _⟩
  · rw [Lib.cell_of_heap h, List.getElem?_toArray]
    have := flat_get trC 2 trC_len ts i 0 t ht (by omega)
    rw [Nat.add_zero] at this
    rw [this]
    rfl
  · rw [Lib.cell_of_heap h, List.getElem?_toArray]
    rw [flat_get trC 2 trC_len ts i 1 t ht (by omega)]
    rfl
theorem TrAt.below {W W' : World} {b : Nat} {ts : List Tr} (h : TrAt W b ts) (hb : Below W.heap.size W W') : TrAt W' b ts := (hb.block b (Array.getElem?_eq_some_iff.1 h).1).trans h
theorem bitS_step {w W w8 : World} {g tb i : Nat} {op md : Int} {nt : Bool} {sv : Value} {t1 t2 : Int} (h : W.cell? ⟨g, 0, none⟩ = some (.int .i64 op) ∧ W.cell? ⟨g, 1, none⟩ = some (.int .i64 md) ∧ W.cell? ⟨g, 2, none⟩ = some (.bool nt) ∧ W.cell? ⟨g, 3, none⟩ = some sv ∧ W.cell? ⟨tb, i * 2, none⟩ = some (.int .i64 t1) ∧ W.cell? ⟨tb, i * 2 + 1, none⟩ = some (.int .i64 t2) ∧ Below w.heap.size w W) (hb : Below W.heap.size W w8) :
    w8.cell? ⟨g, 0, none⟩ = some (.int .i64 op) ∧ w8.cell? ⟨g, 1, none⟩ = some (.int .i64 md) ∧ w8.cell? ⟨g, 2, none⟩ = some (.bool nt) ∧ w8.cell? ⟨g, 3, none⟩ = some sv ∧ w8.cell? ⟨tb, i * 2, none⟩ = some (.int .i64 t1) ∧ w8.cell? ⟨tb, i * 2 + 1, none⟩ = some (.int .i64 t2) ∧ Below w.heap.size w w8 := by
  obtain ⟨h0, h1, h2, h3, h4, h5, h7⟩ := h
  have c := fun p u (h : W.cell? p = some u) => (hb.cell (p := p) (World.block_lt_of_cell? W _ h)).trans h
  exact ⟨c _ _ h0, c _ _ h1, c _ _ h2, c _ _ h3, c _ _ h4, c _ _ h5, h7.trans (hb.mono h7.size)⟩
theorem bitS_b {w W : World} {g tb i : Nat} {op md : Int} {nt : Bool} {sv : Value} {t1 t2 : Int} (h : W.cell? ⟨g, 0, none⟩ = some (.int .i64 op) ∧ W.cell? ⟨g, 1, none⟩ = some (.int .i64 md) ∧ W.cell? ⟨g, 2, none⟩ = some (.bool nt) ∧ W.cell? ⟨g, 3, none⟩ = some sv ∧ W.cell? ⟨tb, i * 2, none⟩ = some (.int .i64 t1) ∧ W.cell? ⟨tb, i * 2 + 1, none⟩ = some (.int .i64 t2) ∧ Below w.heap.size w W) : Below w.heap.size w W := h.2.2.2.2.2.2
set_option maxRecDepth 100000 in
set_option maxHeartbeats 3200000 in
theorem bits_any (gx tb : Nat) (lv v1 v2 : Value) (l : List Rel) (bh : Bool) (ts : List Tr) (B : Nat) (w : World) (hx : w.heap[gx]? = some (.cells #[lv, v1, v2] 125 (0, 0))) (hv : IsRels w B lv l) (hB : B ≤ w.heap.size) (hl : ∀ r ∈ l, relB r = true) (h60 : l.length ≤ 60) (ht : TrAt w tb ts) (htl : ts.length = l.length) :
    Calls Tryz.prog 79 #[.pointer (some ⟨gx, 0, none⟩), .bool bh, .slice (some ⟨tb, 0, none⟩) l.length l.length] w fun e w' => e = .returned (.int .u64 (bitsOf l bh ts : Nat)) ∧ Below w.heap.size w w' := by
  obtain ⟨x0, _, _, _⟩ := three_cells hx
  obtain ⟨ao, cap, svs, rfl, hsv, hq⟩ := rels_fun hv
  obtain ⟨n, hn⟩ : ∃ n, n = l.length := ⟨_, rfl⟩
  unfold bitsOf
  obtain ⟨F, hF⟩ : ∃ F, F = bitF l bh ts := ⟨_, rfl⟩
  rw [← hF]
  rw [← hn] at x0 hq h60
  rw [← hn]
  have HF := Lib.hid hF
  have HQ := Lib.hid hq
  have HSV := Lib.hid hsv
  have HN := Lib.hid hn
  have HT := Lib.hid ht
  have HTL := Lib.hid htl
  have HL := Lib.hid hl
  have HB := Lib.hid hB
  clear hx hv hF hq hsv hn ht htl hl hB
  go_enter Tryz.func79, Tryz.ntmps79
  go_wp2
  go_loopw [7, 15] (fun bv iv wr => ∃ i : Nat, i ≤ n ∧ iv = .int .i64 i ∧ bv = .int .u64 (bitsN F i : Nat) ∧ Below w.heap.size w wr) (fun _ iv _ => n - (intOf iv).toNat)
  case atStart => exact ⟨0, Nat.zero_le _, rfl, rfl, Below.refl _ _⟩
  case round =>
    obtain ⟨i, hi, rfl, rfl, hb⟩ := hrel
    have i0 : (0 : Int) ≤ (i : Int) := by omega
    by_cases hlt : i < n
    · have i1 : (i : Int) < (n : Int) := by omega
      have hil : i < l.length := by have := HN.out; omega
      obtain ⟨r, hr⟩ : ∃ r, l[i]? = some r := ⟨_, List.getElem?_eq_getElem hil⟩
      obtain ⟨t, htt⟩ : ∃ t, ts[i]? = some t := ⟨_, List.getElem?_eq_getElem (by have := HTL.out; omega)⟩
      have er : l.getD i r00 = r := by rw [List.getD_eq_getElem?_getD, hr]; rfl
      have er' : l.getD i ⟨0, 0, false, []⟩ = r := er
      have et : ts.getD i (0, 0) = t := by rw [List.getD_eq_getElem?_getD, htt]; rfl
      have hrB := HL.out r (List.mem_of_getElem? hr)
      have hsp := HSV.out i r hr
      obtain ⟨b, o, rfl, hbB, hcc⟩ := HQ.out (by omega)
      obtain ⟨q0, q1, q2, q3⟩ := hcc i hlt
      rw [er'] at q0 q1 q2
      have cc := fun k u (h : w.cell? ⟨b, k, none⟩ = some u) => (hb.cell (p := ⟨b, k, none⟩) (by show b < w.heap.size; have := HB.out; omega)).trans h
      have a0 := cc _ _ q0
      have a1 := cc _ _ q1
      have a2 := cc _ _ q2
      have a3 := cc _ _ q3
      obtain ⟨u0, u1, _, _⟩ := HT.out.cell htt
      have tlt := World.block_lt_of_cell? w _ u0
      have hFi : F i = ((onWh r != bh) && trHolds r t) := by rw [HF.out]; unfold bitF; rw [er, et]
      obtain ⟨op, md, nt, sp⟩ := r
      obtain ⟨t1, t2⟩ := t
      simp only at a0 a1 a2 u0 u1
      generalize svs i = sv at hsp a3 q3
      have hon := fun W => onWhole_any op md nt sv sp W
      have hth := fun W (hW : Below w.heap.size w W) => trHolds_any op md nt sv sp t1 t2 B W (hsp.below (hW.mono HB.out)) (Nat.le_trans HB.out hW.size) hrB
      obtain ⟨aS, cS, rfl, _⟩ := hsp
      obtain ⟨m, hm⟩ : ∃ m, m = sp.length := ⟨_, rfl⟩
      rw [← hm] at hon hth a3
      obtain ⟨OW, hOW⟩ : ∃ OW, OW = onWh ⟨op, md, nt, sp⟩ := ⟨_, rfl⟩
      obtain ⟨TH, hTH⟩ : ∃ TH, TH = trHolds ⟨op, md, nt, sp⟩ (t1, t2) := ⟨_, rfl⟩
      rw [← hOW] at hon hFi
      rw [← hTH] at hth hFi
      have hlo := bitsN_lt F i
      obtain ⟨N, hN⟩ : ∃ N, N = bitsN F i := ⟨_, rfl⟩
      have hNlt : N < 2 ^ 60 := Nat.lt_of_lt_of_le (by rw [hN]; exact hlo) (Nat.pow_le_pow_right (by omega) (by omega))
      have h2i : 2 ^ i ≤ 2 ^ 60 := Nat.pow_le_pow_right (by omega) (by omega)
      have hN1 : bitsN F (i + 1) = if F i = true then N ||| 2 ^ i else N := by rw [hN]; rfl
      rw [hFi] at hN1
      rw [← hN]
      have HN1 := Lib.hid hN1
      have HON := Lib.hid hon
      have HTH := Lib.hid hth
      have HOR := Lib.hid (u64_or (a := N) (b := 2 ^ i) (by omega) (by omega))
      have HSH := Lib.hid (u64_shl (i := i) (by omega))
      have u0' := (hb.cell (p := ⟨tb, i * 2, none⟩) tlt).trans u0
      have u1' := (hb.cell (p := ⟨tb, i * 2 + 1, none⟩) tlt).trans u1
      have HBW := Lib.hid hb
      clear hr htt er er' et hrB hcc q0 q1 q2 q3 cc u0 u1 hFi hon hth hm hOW hTH hlo hN hNlt h2i hN1 tlt hb hil
      go_upto_region 5 with fail
      obtain ⟨w7, hw7⟩ : ∃ w7, w7 = wr.alloc (.cells #[.int .i64 op, .int .i64 md, .bool nt, .slice aS m cS] 51) := ⟨_, rfl⟩
      have hsx : w7.heap[wr.heap.size]? = some (.cells #[.int .i64 op, .int .i64 md, .bool nt, .slice aS m cS] 51 (0, 0)) := by rw [hw7]; exact heap_alloc_new wr _
      have hb7 : Below wr.heap.size wr w7 := by rw [hw7]; exact (Below.refl _ _).alloc (Nat.le_refl _) _
      rw [← hw7]
      clear hw7
      obtain ⟨s0, s1, s2, s3⟩ := rel_cells hsx
      have v0 := (hb7.cell (p := ⟨tb, i * 2, none⟩) (World.block_lt_of_cell? wr _ u0')).trans u0'
      have v1 := (hb7.cell (p := ⟨tb, i * 2 + 1, none⟩) (World.block_lt_of_cell? wr _ u1')).trans u1'
      have HB7 := Lib.hid (HBW.out.trans (hb7.mono HBW.out.size))
      clear hb7 hsx a0 a1 a2 a3 u0' u1'
      have hways : OW = bh ∨ OW = !bh := by cases OW <;> cases bh <;> simp
      rcases hways with rfl | rfl
      · cases OW
        all_goals
          refine wp_region_quiet (C := fun W => W.cell? ⟨wr.heap.size, 0, none⟩ = some (.int .i64 op) ∧ W.cell? ⟨wr.heap.size, 1, none⟩ = some (.int .i64 md) ∧ W.cell? ⟨wr.heap.size, 2, none⟩ = some (.bool nt) ∧ W.cell? ⟨wr.heap.size, 3, none⟩ = some (.slice aS m cS) ∧ Below w.heap.size w W) (by kernel_rfl) (by kernel_rfl) ⟨s0, s1, s2, s3, HB7.out.drew⟩ ?_
          dsimp only
          repeat (first | go_big_quiet_skip | (go_big_quiet_want; go_big_quiet_op; first | go_big_quiet_on | (refine Exists.intro (Value.agg #[.int .i64 op, .int .i64 md, .bool nt, .slice aS m cS]) (And.intro ?_ ?_); (focus (intro W q1 q2 q3 q4 q5; rw [q1]; simp [Result.andThen, q2, q3, q4])); go_big_quiet_on) | (refine Exists.intro (Value.bool false) (And.intro ?_ ?_); (focus (intro W q1 q2 q3 q4 q5; exact (HON.out W).mono (fun ex W2 hh => ⟨hh.1, ((hh.2).cell (p := ⟨wr.heap.size, 0, none⟩) (World.block_lt_of_cell? W _ q1)).trans q1, ((hh.2).cell (p := ⟨wr.heap.size, 1, none⟩) (World.block_lt_of_cell? W _ q2)).trans q2, ((hh.2).cell (p := ⟨wr.heap.size, 2, none⟩) (World.block_lt_of_cell? W _ q3)).trans q3, ((hh.2).cell (p := ⟨wr.heap.size, 3, none⟩) (World.block_lt_of_cell? W _ q4)).trans q4, q5.trans (hh.2.mono q5.size)⟩))); go_big_quiet_on) | (refine Exists.intro (Value.bool true) (And.intro ?_ ?_); (focus (intro W q1 q2 q3 q4 q5; exact (HON.out W).mono (fun ex W2 hh => ⟨hh.1, ((hh.2).cell (p := ⟨wr.heap.size, 0, none⟩) (World.block_lt_of_cell? W _ q1)).trans q1, ((hh.2).cell (p := ⟨wr.heap.size, 1, none⟩) (World.block_lt_of_cell? W _ q2)).trans q2, ((hh.2).cell (p := ⟨wr.heap.size, 2, none⟩) (World.block_lt_of_cell? W _ q3)).trans q3, ((hh.2).cell (p := ⟨wr.heap.size, 3, none⟩) (World.block_lt_of_cell? W _ q4)).trans q4, q5.trans (hh.2.mono q5.size)⟩))); go_big_quiet_on) | (refine ⟨_, fun _ _ _ _ _ _ => rfl, ?_⟩; go_big_quiet_on)))
          refine wpQuiet_nil ?_
          intro W hW
          go_wp2
          go_roundw
          case rel => exact ⟨i + 1, by omega, by go_num, by rw [HN1.out]; simp, hW.2.2.2.2⟩
          case measure => simp [intOf] <;> omega
      · cases bh
        all_goals
          go_region_held3 (fun W => W.cell? ⟨wr.heap.size, 0, none⟩ = some (.int .i64 op) ∧ W.cell? ⟨wr.heap.size, 1, none⟩ = some (.int .i64 md) ∧ W.cell? ⟨wr.heap.size, 2, none⟩ = some (.bool nt) ∧ W.cell? ⟨wr.heap.size, 3, none⟩ = some (.slice aS m cS) ∧ W.cell? ⟨tb, i * 2, none⟩ = some (.int .i64 t1) ∧ W.cell? ⟨tb, i * 2 + 1, none⟩ = some (.int .i64 t2) ∧ Below w.heap.size w W) (first | assumption | exact ⟨s0, s1, s2, s3, v0, v1, HB7.out⟩ | exact ⟨s0, s1, s2, s3, v0, v1, HB7.out.drew⟩)
            (first
              | (go_at_call 76; refine (HON.out _).mono ?_; rintro e w8 ⟨rfl, hb8⟩; have hS8 := bitS_step (by assumption) hb8)
              | (go_at_call 33; refine (HTH.out _ (bitS_b (by assumption))).mono ?_; rintro e w8 ⟨rfl, hb8⟩; have hS8 := bitS_step (by assumption) hb8))
        all_goals
          have hb8 := bitS_b (by assumption)
          cases TH
          · go_wp2
            go_roundw
            case rel => exact ⟨i + 1, by omega, by go_num, by rw [HN1.out]; simp, hb8⟩
            case measure => simp [intOf] <;> omega
          · have hsh := HSH.out
            have hor := HOR.out
            go_wp2
            go_roundw
            case rel => exact ⟨i + 1, by omega, by go_num, by rw [HN1.out, show (2 : Int) ^ i = ((2 ^ i : Nat) : Int) from by simp, hor]; simp, hb8⟩
            case measure => simp [intOf] <;> omega
    · have i1 : ¬ (i : Int) < (n : Int) := by omega
      have hin : i = n := by omega
      subst hin
      have HBW := Lib.hid hb
      clear hb
      go_wp2
      go_ret
      exact ⟨rfl, HBW.out⟩
end Go.Proofs.YtbkcmgjmhglghaaGreatDoor
