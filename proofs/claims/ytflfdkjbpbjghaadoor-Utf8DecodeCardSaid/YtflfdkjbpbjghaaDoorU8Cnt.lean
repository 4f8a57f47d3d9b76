/-
  Count: the number of elements.
-/
import Derived.Test.YtflfdkjbpbjghaaDoorU8W1
import Derived.Lib.OthersKept
namespace Go.Proofs.YtflfdkjbpbjghaaDoor
open Go.RowKit

def CntP (l : List UInt8) (w : World) (e : Ending) (w' : World) : Prop := e = .returned (.int .i64 (U8.els l).length) ∧ Below w.heap.size w w'

theorem els_left {l : List UInt8} {p : Nat} (hp : p < l.length) : (U8.els (l.drop p)).length = 1 + (U8.els (l.drop (p + (Lib.decodeL (l.drop p)).2))).length := by
  rw [U8.els_step _ (U8.drop_ne hp), List.drop_drop]
  simp; omega

set_option maxRecDepth 100000 in
theorem runes_any (s : ByteArray) (hs : s.size ≤ 4611686018427387904) (w : World) : Calls Tryd.prog 20 #[.string s] w (CntP s.data.toList w) := by
  obtain ⟨B, hB⟩ : ∃ B, B = w.heap.size := ⟨_, rfl⟩
  have HB := Lib.hid hB
  clear hB
  go_enter Tryd.func20, Tryd.ntmps20
  go_wp2
  rw [← HB.out]
  go_loopw [2] (fun n wr => ∃ (k p : Nat), n = .int .i64 k ∧ wr.heap[B]? = some (.stringIter s p) ∧ p ≤ s.size ∧ k ≤ p ∧ (U8.els s.data.toList).length = k + (U8.els (s.data.toList.drop p)).length ∧ Below B w wr) (fun _ wr => s.size - wr.iterPos B)
  case atStart =>
    refine ⟨0, 0, rfl, ?_, Nat.zero_le _, Nat.le_refl _, by simp, ?_⟩
    · rw [HB.out]; exact heap_alloc_new w (.stringIter s 0)
    · rw [HB.out]; exact (Below.refl _ w).alloc (Nat.le_refl _) _
  case round =>
    obtain ⟨k, p, rfl, hI, hp, hkp, he, hbel⟩ := hrel
    have HE := Lib.hid he
    clear he
    by_cases hlt : p < s.size
    · have hnx := fun ty => Lib.run_next_any_at (P := Tryd.prog) wr B s p ty hI hlt
      obtain ⟨wi, hwi⟩ : ∃ wi, wr.iterAt B s (p + (Utf8.decode s p).2) = wi := ⟨_, rfl⟩
      rw [hwi] at hnx
      have hIi : wi.heap[B]? = some (.stringIter s (p + (Utf8.decode s p).2)) := by rw [← hwi]; exact Lib.iterAt_heap _ _ _ _ _ hI
      have hbi : Below B w wi := by rw [← hwi]; exact Lib.below_iterAt hbel (Nat.le_refl _) _ _
      have him : wr.iterPos B = p := by simp [World.iterPos, hI]
      have hlen : p < s.data.toList.length := by rw [U8.size_len]; exact hlt
      have hw1 := U8.width_le hlen
      rw [Lib.decodeL_drop, U8.size_len] at hw1
      have hw0 := Lib.decode_width_pos s p hlt
      have hr := els_left hlen
      rw [Lib.decodeL_drop] at hr
      have HR := Lib.hid hr
      have HI := Lib.hid hIi
      have HM := Lib.hid him
      have HBI := Lib.hid hbi
      clear hr hIi him hwi hbel hI hbi
      go_wp2
      go_roundw
      case rel => exact ⟨k + 1, _, by go_num, HI.out, hw1, by omega, by have := HE.out; have := HR.out; omega, HBI.out⟩
      case measure =>
        rw [HM.out]
        simp only [World.iterPos, HI.out]
        omega
    · have hnx := fun ty => Lib.run_next_end_at (P := Tryd.prog) wr B s p ty hI hlt
      have HBI := Lib.hid hbel
      clear hbel hI
      go_wp2
      go_ret
      unfold CntP
      have := HE.out
      rw [List.drop_of_length_le (by rw [U8.size_len]; omega), U8.els_nil] at this
      rw [this, ← HB.out]
      exact ⟨rfl, HBI.out⟩

theorem count_any (s : ByteArray) (hs : s.size ≤ 4611686018427387904) (w : World) : Calls Tryd.prog 13 #[.string s] w (CntP s.data.toList w) := by
  go_enter Tryd.func13, Tryd.ntmps13
  go_wp2_with fail
  refine (runes_any s hs _).mono ?_
  rintro e w1 ⟨rfl, hb⟩
  have HB := Lib.hid hb
  clear hb
  go_wp2
  go_ret
  exact ⟨rfl, HB.out⟩

end Go.Proofs.YtflfdkjbpbjghaaDoor
