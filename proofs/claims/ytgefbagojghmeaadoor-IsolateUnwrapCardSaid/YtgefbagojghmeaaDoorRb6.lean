/-
  calqueref24.Wrap.
-/
import Derived.Test.YtgefbagojghmeaaDoorRb5
namespace Go.Proofs.YtgefbagojghmeaaDoor
open Go.RowKit

theorem wrapL_bytes (xs : List Int) : encS (wrapL xs) = ⟨#[226, 129, 168]⟩ ++ encS (bal xs) ++ ⟨#[226, 129, 169]⟩ := by
  unfold wrapL
  rw [encS_close, encS_app]
  rfl
theorem bal_len (xs : List Int) : (bal xs).length ≤ xs.length + 8 := by
  obtain ⟨_, h2, _, h4⟩ := balRun_ok xs
  unfold bal
  rw [List.length_append, List.length_replicate]
  omega

set_option maxRecDepth 100000 in
theorem refwrap_any (s : ByteArray) (hs : s.size ≤ 10000) (w : World) : Calls Tryd.prog 14 #[.string s] w (WrapP (ints (U8.els s.data.toList)) w) := by
  have hle := U8.els_len s.data.toList
  rw [U8.size_len] at hle
  have hli : (ints (U8.els s.data.toList)).length ≤ 10000 := by unfold ints; rw [List.length_map]; omega
  have hb := refbalance_any s hs
  unfold BalanceP at hb
  unfold WrapP
  obtain ⟨xs, hxs⟩ : ∃ xs, ints (U8.els s.data.toList) = xs := ⟨_, rfl⟩
  rw [hxs] at hb hli
  rw [hxs, wrapL_bytes]
  have hz := encS_size (bal xs)
  have hz2 := bal_len xs
  obtain ⟨t, ht⟩ : ∃ t, encS (bal xs) = t := ⟨_, rfl⟩
  rw [ht] at hb hz
  rw [ht]
  have hts : t.size ≤ 40032 := by omega
  have HB := Lib.hid hb
  clear hb ht hxs hz hz2 hli hle
  go_enter Tryd.func14, Tryd.ntmps14
  go_wp2_with fail
  refine (HB.out _).mono ?_
  rintro e w1 ⟨rfl, hb1⟩
  have HB1 := Lib.hid hb1
  clear hb1
  go_wp2
  go_ret
  exact ⟨rfl, HB1.out⟩
end Go.Proofs.YtgefbagojghmeaaDoor
