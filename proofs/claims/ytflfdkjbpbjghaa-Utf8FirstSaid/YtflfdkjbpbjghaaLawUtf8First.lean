/-
  The law Utf8First: First returns the specified beginning, with as many elements as asked for, if there are as many.
-/
import Derived.Test.YtflfdkjbpbjghaaU8W13
import Derived.Test.YtflfdkjbpbjghaaU8W9
namespace Go.Proofs.Ytflfdkjbpbjghaa
open Go.RowKit

theorem firstS_els (s : ByteArray) (n : Int) : (U8.els (firstS s n).data.toList).length = min n.toNat (U8.els s.data.toList).length := by
  unfold firstS
  simp only
  exact U8.els_first_length _ _

set_option maxRecDepth 100000 in
set_option maxHeartbeats 1000000 in
theorem law_Utf8First (s : ByteArray) (n : Int) (hs : s.size ≤ maxLen) (hn : n ≤ 9223372036854775807) (hn0 : -9223372036854775808 ≤ n) (w : World) : Calls Try.prog 6 #[.string s, .int .i64 n] w (TrueP w) := by
  unfold maxLen at hs
  by_cases hl : 300 < s.size
  · go_enter Try.func6, Try.ntmps6
    go_wp2_with fail
    refine (awake_any _).mono ?_
    rintro e w1 ⟨rfl, hb1⟩
    have HB1 := Lib.hid hb1
    clear hb1
    go_wp2_with fail
    refine (awake_any _).mono ?_
    rintro e w2 ⟨rfl, hb2⟩
    have HB2 := Lib.hid (HB1.out.trans (hb2.mono HB1.out.size))
    clear hb2
    go_wp2
    go_ret
    exact ⟨rfl, HB2.out⟩
  · have h1 : ∀ W : World, Calls Try.prog 13 #[.string s, .int .i64 n] W (FstP s n W) := first_any s (by omega) n
    have h2 : ∀ W : World, Calls Try.prog 14 #[.string s, .int .i64 n] W (FstP s n W) := reffirst_any s (by omega) n hn hn0
    have hc := firstS_els s n
    have hz : (firstS s n).size ≤ 300 := by
      rw [← U8.size_len]
      unfold firstS
      simp only
      rw [List.length_take, U8.size_len]
      omega
    have hm := U8.els_len s.data.toList
    rw [U8.size_len] at hm
    obtain ⟨t, ht⟩ : ∃ t, firstS s n = t := ⟨_, rfl⟩
    unfold FstP at h1 h2
    rw [ht] at h1 h2 hc hz
    have h3 := count_any t (by omega)
    have h4 := count_any s (by omega)
    unfold CntP at h3 h4
    rw [hc] at h3
    obtain ⟨m, hm'⟩ : ∃ m, (U8.els s.data.toList).length = m := ⟨_, rfl⟩
    rw [hm'] at h3 h4 hm
    have H1 := Lib.hid h1
    have H2 := Lib.hid h2
    have H4 := Lib.hid h4
    obtain ⟨c, hcc⟩ : ∃ c : Int, ((min n.toNat m : Nat) : Int) = c := ⟨_, rfl⟩
    rw [hcc] at h3
    have h5 : (n < 0 ∧ c = 0) ∨ (0 ≤ n ∧ n ≤ m ∧ c = n) ∨ (0 ≤ n ∧ m < n ∧ c = m) := by omega
    have H3 := Lib.hid h3
    clear h1 h2 h3 h4 ht hc hm' hcc
    rcases h5 with ⟨k1, rfl⟩ | ⟨k1, k2, rfl⟩ | ⟨k1, k2, rfl⟩
    all_goals
      go_enter Try.func6, Try.ntmps6
      go_wp2_with fail
      refine (awake_any _).mono ?_
      rintro e w1 ⟨rfl, hb1⟩
      have HB1 := Lib.hid hb1
      clear hb1
      go_wp2_with fail
      refine (H1.out _).mono ?_
      rintro e w2 ⟨rfl, hb2⟩
      have HB2 := Lib.hid (HB1.out.trans (hb2.mono HB1.out.size))
      clear hb2
      go_wp2_with fail
      refine (H2.out _).mono ?_
      rintro e w3 ⟨rfl, hb3⟩
      have HB3 := Lib.hid (HB2.out.trans (hb3.mono HB2.out.size))
      clear hb3
      go_wp2_with fail
      refine (H3.out _).mono ?_
      rintro e w4 ⟨rfl, hb4⟩
      have HB4 := Lib.hid (HB3.out.trans (hb4.mono HB3.out.size))
      clear hb4
      go_wp2_with fail
      refine (H4.out _).mono ?_
      rintro e w5 ⟨rfl, hb5⟩
      have HB5 := Lib.hid (HB4.out.trans (hb5.mono HB4.out.size))
      clear hb5
      go_wp2
      go_ret
      exact ⟨rfl, HB5.out⟩
end Go.Proofs.Ytflfdkjbpbjghaa
