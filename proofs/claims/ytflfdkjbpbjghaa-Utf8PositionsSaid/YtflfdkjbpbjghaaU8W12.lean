/-
  calqueref01.Offset: the first boundary with a line and a column, or the error of what does not exist.
-/
import Derived.Test.YtflfdkjbpbjghaaU8W11
namespace Go.Proofs.Ytflfdkjbpbjghaa
open Go.RowKit

theorem refat_mem (s : ByteArray) (hs : s.size ≤ 1000000) (p : U8.Pos) (hp : p ∈ U8.poss s.data.toList) (w : World) :
    Calls Try.prog 9 #[.string s, .int .i64 p.1] w fun e w' => e = .returned (.tuple #[.agg #[.int .i64 p.1, .int .i64 p.2.1, .int .i64 p.2.2], .int .i64 0]) ∧ Below w.heap.size w w' := by
  refine (refat_any s (by omega) p.1 w).mono ?_
  rintro e w' ⟨he, hb⟩
  rw [U8.atS_mem _ p hp] at he
  exact ⟨he, hb⟩
theorem bnds_at {l : List UInt8} {k : Nat} (h : k < (ints (U8.bnds l)).length) : ∃ p, p ∈ U8.poss l ∧ (U8.poss l)[k]? = some p ∧ (ints (U8.bnds l)).getD k 0 = p.1 := by
  have h' : k < (U8.poss l).length := by simpa [ints, U8.bnds] using h
  refine ⟨(U8.poss l)[k], List.getElem_mem h', by simp [h'], ?_⟩
  simp [ints, U8.bnds, List.getD, h']
theorem take_no {L : List U8.Pos} {f : U8.Pos → Bool} {k : Nat} {p : U8.Pos} (h : ∀ q ∈ L.take k, f q = false) (hp : L[k]? = some p) (hf : f p = false) : ∀ q ∈ L.take (k + 1), f q = false := by
  intro q hq
  have hk : k < L.length := (List.getElem?_eq_some_iff.1 hp).1
  rw [List.take_succ_eq_append_getElem hk] at hq
  rcases List.mem_append.1 hq with hq | hq
  · exact h q hq
  · rw [List.mem_singleton.1 hq]
    rw [List.getElem?_eq_getElem hk] at hp
    rw [Option.some.inj hp]; exact hf
theorem take_yes {L : List U8.Pos} {f : U8.Pos → Bool} {k : Nat} {p : U8.Pos} (h : ∀ q ∈ L.take k, f q = false) (hp : L[k]? = some p) (hf : f p = true) : L.find? f = some p := by
  have hk : k < L.length := (List.getElem?_eq_some_iff.1 hp).1
  rw [List.getElem?_eq_getElem hk] at hp
  refine U8.find_pre (pre := L.take k) (rest := L.drop (k + 1)) ?_ h hf
  rw [← Option.some.inj hp, ← List.drop_eq_getElem_cons hk, List.take_append_drop]

set_option maxRecDepth 100000 in
set_option maxHeartbeats 1000000 in
theorem refoff_any (s : ByteArray) (hs : s.size ≤ 1000000) (line col : Int) (w : World) : Calls Try.prog 11 #[.string s, .int .i64 line, .int .i64 col] w (OffP s line col w) := by
  go_enter Try.func11, Try.ntmps11
  go_wp2_with fail
  refine (bnds_any s hs _).mono ?_
  rintro e w1 ⟨v, rfl, hown, hb1⟩
  have hli : (ints (U8.bnds s.data.toList)).length ≤ 4611686018427387904 := by
    have : (ints (U8.bnds s.data.toList)).length ≤ maxLen := by
      rcases hown.2 with ⟨_, h0⟩ | ⟨g, cap, cur, _, _, _, h1, h2, _⟩
      · rw [h0]; exact Nat.zero_le _
      · omega
    have h2 : ∀ (n : Nat) (p : U8.Pos) (l : List UInt8), (U8.possF n p l).length ≤ n + 1 := by
      intro n
      induction n with
      | zero => intro p l; simp [U8.possF]
      | succ n ih => intro p l; unfold U8.possF; split <;> simp; exact ih _ _
    have h3 := h2 s.data.toList.length (0, 1, 1) s.data.toList
    rw [U8.size_len] at h3
    have : (ints (U8.bnds s.data.toList)).length = (U8.poss s.data.toList).length := by simp [ints, U8.bnds]
    rw [this]
    unfold U8.poss
    rw [U8.size_len]
    omega
  obtain ⟨ao, cap, rfl, hints⟩ := IsInts.of_own hown
  obtain ⟨n, hn⟩ : ∃ n, n = (ints (U8.bnds s.data.toList)).length := ⟨_, rfl⟩
  rw [← hn] at hints hli
  rw [← hn]
  have HN := Lib.hid hn
  have HI := Lib.hid hints
  have HB1 := Lib.hid hb1
  clear hn hints hown hb1
  go_wp2
  go_loopw [9] (fun i wr => ∃ k : Nat, k ≤ n ∧ i = .int .i64 k ∧ Below w1.heap.size w1 wr ∧ ∀ q ∈ (U8.poss s.data.toList).take k, lcB line col q = false) (fun i _ => n - (intOf i).toNat)
  case atStart => exact ⟨0, Nat.zero_le _, rfl, Below.refl _ _, by simp⟩
  case round =>
    obtain ⟨k, hk, rfl, hbel, hno⟩ := hrel
    have HNO := Lib.hid hno
    clear hno
    by_cases hlt : k < n
    · obtain ⟨b, o, rfl, hbw, hc⟩ := HI.out (by omega)
      obtain ⟨p, hp1, hp2, hp3⟩ := bnds_at (l := s.data.toList) (k := k) (by rw [← HN.out]; exact hlt)
      have c1 := (hbel.cell (p := ⟨b, o + k, none⟩) hbw).trans (hc k hlt)
      rw [hp3] at c1
      have HC := Lib.hid (refat_mem s hs p hp1)
      have HP2 := Lib.hid hp2
      have HBL := Lib.hid hbel
      have k0 : (0 : Int) ≤ (k : Int) := by omega
      have k1 : (k : Int) < (n : Int) := by omega
      clear hp1 hp2 hp3 hc hbel
      go_wp2_with fail
      refine (HC.out _).mono ?_
      rintro e w2 ⟨rfl, hb2⟩
      have s1 := HBL.out.size
      have hbl := HBL.out.trans (hb2.mono s1)
      have c2 := (hb2.cell (p := ⟨b, o + k, none⟩) (by show b < _; omega)).trans c1
      have HB2 := Lib.hid hbl
      have s2 := hbl.size
      have c3 : ∀ X, (w2.alloc X).cell? ⟨b, o + k, none⟩ = some (.int .i64 p.1) := fun X => (World.cell?_alloc_lt w2 X ⟨b, o + k, none⟩ (by show b < _; omega)).trans c2
      clear hb2 hbl c1 HC
      by_cases hx : ((p.2.1 : Int) == line) = true
      · by_cases hy : ((p.2.2 : Int) == col) = true
        · have hz : lcB line col p = true := by simp only [lcB, hx, hy, Bool.and_self]
          have HX := Lib.hid (take_yes HNO.out HP2.out hz)
          clear hz
          go_wp2
          go_ret2
          refine ⟨?_, HB1.out.trans ((HB2.out.alloc s2 _).mono HB1.out.size)⟩
          have : U8.offS s.data.toList line col = some p := HX.out
          rw [this]
          rfl
        · have hy0 : ((p.2.2 : Int) == col) = false := by simpa using hy
          clear hy
          have hz : lcB line col p = false := by simp only [lcB, hx, hy0, Bool.and_false]
          have HX := Lib.hid (take_no HNO.out HP2.out hz)
          clear hz
          go_wp2
          go_roundw
          case rel => exact ⟨k + 1, by omega, by go_num, HB2.out.alloc s2 _, HX.out⟩
          case measure => simp [intOf]; omega
      · have hx0 : ((p.2.1 : Int) == line) = false := by simpa using hx
        clear hx
        have hz : lcB line col p = false := by simp only [lcB, hx0, Bool.false_and]
        have HX := Lib.hid (take_no HNO.out HP2.out hz)
        clear hz
        go_wp2
        go_roundw
        case rel => exact ⟨k + 1, by omega, by go_num, HB2.out.alloc s2 _, HX.out⟩
        case measure => simp [intOf]; omega
    · have hend : U8.offS s.data.toList line col = none := by
        refine U8.find_none (f := lcB line col) fun q hq => HNO.out q ?_
        rw [List.take_of_length_le (by have := HN.out; simp [ints, U8.bnds] at this; omega)]
        exact hq
      have HE := Lib.hid hend
      have HBL := Lib.hid hbel
      clear hend hbel
      go_wp2
      go_ret2
      unfold OffP
      rw [HE.out]
      exact ⟨rfl, HB1.out.trans (HBL.out.mono HB1.out.size)⟩
end Go.Proofs.Ytflfdkjbpbjghaa
