/-
  Count, and the two Firsts.
-/
import Derived.Test.YtflfdkjbpbjghaaU8W6
import Derived.Test.YtflfdkjbpbjghaaU8W7
namespace Go.Proofs.Ytflfdkjbpbjghaa
open Go.RowKit

def CntP (l : List UInt8) (w : World) (e : Ending) (w' : World) : Prop := e = .returned (.int .i64 (U8.els l).length) ∧ Below w.heap.size w w'

theorem els_left {l : List UInt8} {p : Nat} (hp : p < l.length) : (U8.els (l.drop p)).length = 1 + (U8.els (l.drop (p + (Lib.decodeL (l.drop p)).2))).length := by
  rw [U8.els_step _ (U8.drop_ne hp), List.drop_drop]
  simp; omega

set_option maxRecDepth 100000 in
theorem runes_any (s : ByteArray) (hs : s.size ≤ 4611686018427387904) (w : World) : Calls Try.prog 22 #[.string s] w (CntP s.data.toList w) := by
  obtain ⟨B, hB⟩ : ∃ B, B = w.heap.size := ⟨_, rfl⟩
  have HB := Lib.hid hB
  clear hB
  go_enter Try.func22, Try.ntmps22
  go_wp2
  rw [← HB.out]
  go_loopw [2] (fun n wr => ∃ (k p : Nat), n = .int .i64 k ∧ wr.heap[B]? = some (.stringIter s p) ∧ p ≤ s.size ∧ k ≤ p ∧ (U8.els s.data.toList).length = k + (U8.els (s.data.toList.drop p)).length ∧ Below B w wr) (fun _ wr => s.size - wr.iterPos B)
  case atStart =>
    refine ⟨0, 0, rfl, ?_, Nat.zero_le _, Nat.le_refl _, by simp, ?_⟩
    · rw [HB.out]; exact heap_alloc_new w (.stringIter s 0)
    · rw [HB.out]; exact (Below.refl _ w).alloc (Nat.le_refl _) _
  case round =>
    obtain ⟨k, p, rfl, hI, hp, hkp, he, hbel⟩ := hrel
    have HE := Lib.hid he
    clear he
    by_cases hlt : p < s.size
    · have hnx := fun ty => Lib.run_next_any_at (P := Try.prog) wr B s p ty hI hlt
      obtain ⟨wi, hwi⟩ : ∃ wi, wr.iterAt B s (p + (Utf8.decode s p).2) = wi := ⟨_, rfl⟩
      rw [hwi] at hnx
      have hIi : wi.heap[B]? = some (.stringIter s (p + (Utf8.decode s p).2)) := by rw [← hwi]; exact Lib.iterAt_heap _ _ _ _ _ hI
      have hbi : Below B w wi := by rw [← hwi]; exact Lib.below_iterAt hbel (Nat.le_refl _) _ _
      have him : wr.iterPos B = p := by simp [World.iterPos, hI]
      have hlen : p < s.data.toList.length := by rw [U8.size_len]; exact hlt
      have hw1 := U8.width_le hlen
      rw [Lib.decodeL_drop, U8.size_len] at hw1
      have hw0 := Lib.decode_width_pos s p hlt
      have hr := els_left hlen
      rw [Lib.decodeL_drop] at hr
      have HR := Lib.hid hr
      have HI := Lib.hid hIi
      have HM := Lib.hid him
      have HBI := Lib.hid hbi
      clear hr hIi him hwi hbel hI hbi
      go_wp2
      go_roundw
      case rel => exact ⟨k + 1, _, by go_num, HI.out, hw1, by omega, by have := HE.out; have := HR.out; omega, HBI.out⟩
      case measure =>
        rw [HM.out]
        simp only [World.iterPos, HI.out]
        omega
    · have hnx := fun ty => Lib.run_next_end_at (P := Try.prog) wr B s p ty hI hlt
      have HBI := Lib.hid hbel
      clear hbel hI
      go_wp2
      go_ret
      unfold CntP
      have := HE.out
      rw [List.drop_of_length_le (by rw [U8.size_len]; omega), U8.els_nil] at this
      rw [this, ← HB.out]
      exact ⟨rfl, HBI.out⟩

theorem count_any (s : ByteArray) (hs : s.size ≤ 4611686018427387904) (w : World) : Calls Try.prog 15 #[.string s] w (CntP s.data.toList w) := by
  go_enter Try.func15, Try.ntmps15
  go_wp2_with fail
  refine (runes_any s hs _).mono ?_
  rintro e w1 ⟨rfl, hb⟩
  have HB := Lib.hid hb
  clear hb
  go_wp2
  go_ret
  exact ⟨rfl, HB.out⟩

/-! ### First -/
theorem adv_succ : ∀ (k : Nat) (l : List UInt8), U8.adv (k + 1) l = if U8.adv k l < l.length then U8.adv k l + (Lib.decodeL (l.drop (U8.adv k l))).2 else U8.adv k l
  | 0, l => by
    show (if l = [] then 0 else _) = _
    by_cases hl : l = []
    · subst hl; rfl
    · rw [if_neg hl, if_pos (by show 0 < _; exact List.length_pos_iff.2 hl)]
      show _ + 0 = 0 + _
      simp [U8.adv]
  | k + 1, l => by
    have e : ∀ n, U8.adv (n + 1) l = if l = [] then 0 else (Lib.decodeL l).2 + U8.adv n (l.drop (Lib.decodeL l).2) := fun n => rfl
    rw [e (k + 1), e k]
    by_cases hl : l = []
    · subst hl; rfl
    · have hwl := Lib.decodeL_le l hl
      rw [if_neg hl, if_neg hl, adv_succ k (l.drop (Lib.decodeL l).2)]
      rw [List.length_drop, List.drop_drop]
      by_cases h : U8.adv k (l.drop (Lib.decodeL l).2) < l.length - (Lib.decodeL l).2
      · rw [if_pos h, if_pos (by omega)]; omega
      · rw [if_neg h, if_neg (by omega)]
theorem adv_full {k m : Nat} {l : List UInt8} (h : U8.adv k l = l.length) (hkm : k ≤ m) : U8.adv m l = l.length := by
  induction m with
  | zero => obtain rfl : k = 0 := by omega
            exact h
  | succ m ih =>
    by_cases e : k = m + 1
    · subst e; exact h
    · rw [adv_succ, ih (by omega), if_neg (by omega)]
theorem adv_room : ∀ (k : Nat) (l : List UInt8), U8.adv k l < l.length → k ≤ U8.adv k l
  | 0, l, _ => Nat.zero_le _
  | k + 1, l, h => by
    rw [adv_succ] at h ⊢
    by_cases h' : U8.adv k l < l.length
    · rw [if_pos h'] at h ⊢
      have := adv_room k l h'
      have := Lib.decodeL_width (l.drop (U8.adv k l))
      omega
    · rw [if_neg h'] at h; exact absurd h h'
/-- The first elements, as a string. -/
def firstS (s : ByteArray) (n : Int) : ByteArray := ⟨(s.data.toList.take (U8.adv n.toNat s.data.toList)).toArray⟩
theorem of_list {t : ByteArray} {l : List UInt8} (h : t.data.toList = l) : t = ⟨l.toArray⟩ := by subst h; cases t; simp
theorem firstS_cut (s : ByteArray) (n : Int) {p : Nat} (h : U8.adv n.toNat s.data.toList = p) : s.extract 0 p = firstS s n := by
  unfold firstS
  rw [h]
  exact of_list (by rw [Lib.extract_data, List.drop_zero, Nat.sub_zero])
theorem firstS_all (s : ByteArray) (n : Int) (h : U8.adv n.toNat s.data.toList = s.data.toList.length) : firstS s n = s := by
  unfold firstS
  rw [h, List.take_of_length_le (Nat.le_refl _)]
theorem firstS_none (s : ByteArray) (n : Int) (h : n < 1) : firstS s n = ⟨#[]⟩ := by
  unfold firstS
  rw [show n.toNat = 0 by omega]
  rfl
def FstP (s : ByteArray) (n : Int) (w : World) (e : Ending) (w' : World) : Prop := e = .returned (.string (firstS s n)) ∧ Below w.heap.size w w'

set_option maxRecDepth 100000 in
set_option maxHeartbeats 1000000 in
theorem first_any (s : ByteArray) (hs : s.size ≤ 1000000) (n : Int) (w : World) : Calls Try.prog 13 #[.string s, .int .i64 n] w (FstP s n w) := by
  obtain ⟨B, hB⟩ : ∃ B, B = w.heap.size := ⟨_, rfl⟩
  have HB := Lib.hid hB
  clear hB
  go_enter Try.func13, Try.ntmps13
  go_wp2
  rw [← HB.out]
  go_loopw [5] (fun i wr => ∃ (k p : Nat), i = .int .i64 k ∧ wr.heap[B]? = some (.stringIter s p) ∧ p ≤ s.size ∧ k ≤ p ∧ k ≤ n.toNat ∧ U8.adv k s.data.toList = p ∧ Below B w wr) (fun _ wr => s.size - wr.iterPos B)
  case atStart =>
    refine ⟨0, 0, rfl, ?_, Nat.zero_le _, Nat.le_refl _, Nat.zero_le _, rfl, ?_⟩
    · rw [HB.out]; exact heap_alloc_new w (.stringIter s 0)
    · rw [HB.out]; exact (Below.refl _ w).alloc (Nat.le_refl _) _
  case round =>
    obtain ⟨k, p, rfl, hI, hp, hkp, hkn, he, hbel⟩ := hrel
    have HE := Lib.hid he
    clear he
    by_cases hlt : p < s.size
    · have hnx := fun ty => Lib.run_next_any_at (P := Try.prog) wr B s p ty hI hlt
      obtain ⟨wi, hwi⟩ : ∃ wi, wr.iterAt B s (p + (Utf8.decode s p).2) = wi := ⟨_, rfl⟩
      rw [hwi] at hnx
      have hIi : wi.heap[B]? = some (.stringIter s (p + (Utf8.decode s p).2)) := by rw [← hwi]; exact Lib.iterAt_heap _ _ _ _ _ hI
      have hbi : Below B w wi := by rw [← hwi]; exact Lib.below_iterAt hbel (Nat.le_refl _) _ _
      have him : wr.iterPos B = p := by simp [World.iterPos, hI]
      have hlen : p < s.data.toList.length := by rw [U8.size_len]; exact hlt
      have hw1 := U8.width_le hlen
      rw [Lib.decodeL_drop, U8.size_len] at hw1
      have hw0 := Lib.decode_width_pos s p hlt
      have hr := adv_succ k s.data.toList
      rw [HE.out, if_pos hlen, Lib.decodeL_drop] at hr
      have HR := Lib.hid hr
      have HI := Lib.hid hIi
      have HM := Lib.hid him
      have HBI := Lib.hid hbi
      clear hr hIi him hwi hbel hI hbi
      by_cases hn : n ≤ (k : Int)
      · go_wp2
        go_ret
        have := firstS_cut s n (p := p) (by rw [show n.toNat = k by omega]; exact HE.out)
        unfold FstP
        rw [← this, ← HB.out]
        exact ⟨rfl, HBI.out⟩
      · go_wp2
        go_roundw
        case rel => exact ⟨k + 1, _, by go_num, HI.out, hw1, by omega, by omega, HR.out, HBI.out⟩
        case measure =>
          rw [HM.out]
          simp only [World.iterPos, HI.out]
          omega
    · have hnx := fun ty => Lib.run_next_end_at (P := Try.prog) wr B s p ty hI hlt
      have HBI := Lib.hid hbel
      clear hbel hI
      have hlen : p = s.data.toList.length := by rw [U8.size_len]; omega
      have HL := Lib.hid hlen
      clear hlen
      by_cases hn : n < 1
      · go_wp2
        go_ret
        unfold FstP
        rw [firstS_none s n hn, ← HB.out]
        exact ⟨rfl, HBI.out⟩
      · go_wp2
        go_ret
        unfold FstP
        rw [firstS_all s n (adv_full (HE.out.trans HL.out) hkn), ← HB.out]
        exact ⟨rfl, HBI.out⟩

set_option maxRecDepth 100000 in
set_option maxHeartbeats 1000000 in
theorem reffirst_any (s : ByteArray) (hs : s.size ≤ 1000000) (n : Int) (hn : n ≤ 9223372036854775807) (hn0 : -9223372036854775808 ≤ n) (w : World) : Calls Try.prog 14 #[.string s, .int .i64 n] w (FstP s n w) := by
  go_enter Try.func14, Try.ntmps14
  go_wp2
  go_loopw [1, 5] (fun m i wr => ∃ (k p : Nat), i = .int .i64 p ∧ m = .int .i64 (n - k) ∧ p ≤ s.size ∧ k ≤ p ∧ k ≤ n.toNat ∧ U8.adv k s.data.toList = p ∧ Below w.heap.size w wr) (fun _ i _ => s.size - (intOf i).toNat)
  case atStart =>
    exact ⟨0, 0, rfl, by simp, Nat.zero_le _, Nat.le_refl _, Nat.zero_le _, rfl, Below.refl _ _⟩
  case round =>
    obtain ⟨k, p, rfl, rfl, hp, hkp, hkn, he, hbel⟩ := hrel
    have HE := Lib.hid he
    have HBL := Lib.hid hbel
    clear he hbel
    by_cases hm : (k : Int) < n
    · by_cases hlt : p < s.size
      · obtain ⟨⟨c, z⟩, hd⟩ : ∃ d, Lib.decodeL (s.data.toList.drop p) = d := ⟨_, rfl⟩
        have hlen : p < s.data.toList.length := by rw [U8.size_len]; exact hlt
        have hw1 := U8.width_le hlen
        have hw0 := Lib.decodeL_width (s.data.toList.drop p)
        have hr := adv_succ k s.data.toList
        rw [HE.out, if_pos hlen, hd] at hr
        rw [hd, U8.size_len] at hw1
        rw [hd] at hw0
        dsimp only at hw1 hw0 hr
        have HC := Lib.hid (next_at s p c z (by omega) hlt hd)
        have HR := Lib.hid hr
        clear hd hr hlen
        have t1 : (0 : Int) < n - (k : Int) := by omega
        go_wp2_with fail
        refine (HC.out _).mono ?_
        rintro e w1 ⟨rfl, hb⟩
        have HB1 := Lib.hid (HBL.out.trans (hb.mono HBL.out.size))
        clear hb
        go_wp2
        go_roundw
        case rel => exact ⟨k + 1, p + z, by go_num, by go_num, by omega, by omega, by omega, HR.out, HB1.out⟩
        case measure => simp [intOf]; omega
      · have hlen : p = s.data.toList.length := by rw [U8.size_len]; omega
        have HL := Lib.hid hlen
        clear hlen
        have t1 : (0 : Int) < n - (k : Int) := by omega
        go_wp2
        go_ret
        have := firstS_cut s n (p := p) (by rw [adv_full (HE.out.trans HL.out) hkn]; exact HL.out.symm)
        unfold FstP
        rw [← this]
        exact ⟨rfl, HBL.out⟩
    · have t1 : ¬ (0 : Int) < n - (k : Int) := by omega
      have t2 : n - (k : Int) ≤ 0 := by omega
      go_wp2
      go_ret
      have := firstS_cut s n (p := p) (by rw [show n.toNat = k by omega]; exact HE.out)
      unfold FstP
      rw [← this]
      exact ⟨rfl, HBL.out⟩
end Go.Proofs.Ytflfdkjbpbjghaa
