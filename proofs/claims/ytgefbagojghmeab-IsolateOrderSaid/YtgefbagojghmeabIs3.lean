/-
  isolate.Wrap and isolate.Strip; the examples of layer 24.
-/
import Derived.Test.YtgefbagojghmeabIs2
namespace Go.Proofs.Ytgefbagojghmeab
open Go.RowKit

def wrapL (xs : List Int) : List Int := [8296] ++ bal xs ++ [8297]
def WrapP (xs : List Int) (w : World) (e : Ending) (w' : World) : Prop := e = .returned (.string (encS (wrapL xs))) ∧ Below w.heap.size w w'

set_option maxRecDepth 100000 in
set_option maxHeartbeats 1000000 in
theorem wrap_any (s : ByteArray) (hs : s.size ≤ 10000) (w : World) : Calls Try.prog 7 #[.string s] w (WrapP (ints (U8.els s.data.toList)) w) := by
  have hle := U8.els_len s.data.toList
  rw [U8.size_len] at hle
  have hli : (ints (U8.els s.data.toList)).length ≤ 10000 := by unfold ints; rw [List.length_map]; omega
  have hb := balance_any s hs
  unfold BalanceP at hb
  unfold WrapP wrapL
  obtain ⟨xs, hxs⟩ : ∃ xs, ints (U8.els s.data.toList) = xs := ⟨_, rfl⟩
  rw [hxs] at hb hli
  rw [hxs, encS_app, encS_app]
  have hz := encS_size (bal xs)
  have hz2 : (bal xs).length ≤ 10008 := by
    have := balRun_ok xs
    obtain ⟨_, h2, _, h4⟩ := this
    unfold bal
    rw [List.length_append, List.length_replicate]
    omega
  obtain ⟨t, ht⟩ : ∃ t, encS (bal xs) = t := ⟨_, rfl⟩
  rw [ht] at hb hz
  rw [ht]
  have h1 : (encS [8296]).size ≤ 4 := encS_size _
  have h2 : (encS [8297]).size ≤ 4 := encS_size _
  have he1 := fun v w h => encode_any v [8296] (by decide) w h
  have he2 := fun v w h => encode_any v [8297] (by decide) w h
  unfold EncodeP at he1 he2
  obtain ⟨t1, ht1⟩ : ∃ t, encS [8296] = t := ⟨_, rfl⟩
  obtain ⟨t2, ht2⟩ : ∃ t, encS [8297] = t := ⟨_, rfl⟩
  rw [ht1] at h1 he1
  rw [ht2] at h2 he2
  rw [ht1, ht2]
  have hts : t.size ≤ 40032 := by omega
  have HB := Lib.hid hb
  have HE1 := Lib.hid he1
  have HE2 := Lib.hid he2
  clear hb he1 he2 ht ht1 ht2 hxs hz hz2 hli hle
  go_enter Try.func7, Try.ntmps7
  go_wp2_with fail
  refine (HE1.out (.slice (some ⟨_, 0, none⟩) 1 1) _ ((IsInts.new _ 3 [8296]).more (by simp))).mono ?_
  rintro e w1 ⟨rfl, hb1⟩
  have HB1 := Lib.hid (((Below.refl _ _).alloc (Nat.le_refl _) _).trans (hb1.mono (by simp)) : Below w.heap.size w w1)
  clear hb1
  go_wp2_with fail
  refine (HB.out _).mono ?_
  rintro e w2 ⟨rfl, hb2⟩
  have HB2 := Lib.hid (HB1.out.trans (hb2.mono HB1.out.size))
  clear hb2
  go_wp2_with fail
  refine (HE2.out (.slice (some ⟨_, 0, none⟩) 1 1) _ ((IsInts.new _ 3 [8297]).more (by simp))).mono ?_
  rintro e w3 ⟨rfl, hb3⟩
  have HB3 := Lib.hid ((HB2.out.alloc HB2.out.size _).trans (hb3.mono (by have := HB2.out.size; simp; omega)))
  clear hb3
  go_wp2
  go_ret
  exact ⟨rfl, HB3.out⟩

def stripL (xs : List Int) : List Int := xs.filter fun c => !initB c && !termB c
theorem strip_more {xs : List Int} {k : Nat} (hk : k < xs.length) : stripL (xs.take (k + 1)) = stripL (xs.take k) ++ (if (!initB (xs.getD k 0) && !termB (xs.getD k 0)) = true then [xs.getD k 0] else []) := by
  rw [take_more hk]
  unfold stripL
  rw [List.filter_append]
  congr 1
  rw [List.filter_cons, List.filter_nil]
theorem stripL_len (xs : List Int) : (stripL xs).length ≤ xs.length := List.length_filter_le _ _
def StripP (xs : List Int) (w : World) (e : Ending) (w' : World) : Prop := e = .returned (.string (encS (stripL xs))) ∧ Below w.heap.size w w'

end Go.Proofs.Ytgefbagojghmeab
