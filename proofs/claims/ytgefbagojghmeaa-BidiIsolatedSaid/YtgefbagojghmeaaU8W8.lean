/-
  utf8.Decode: a new slice of the elements.
-/
import Derived.Test.YtgefbagojghmeaaU8I
namespace Go.Proofs.Ytgefbagojghmeaa
open Go.RowKit

def ints (l : List Nat) : List Int := l.map fun (n : Nat) => (n : Int)
def DecP (s : ByteArray) (w : World) (e : Ending) (w' : World) : Prop :=
  ∃ v, e = .returned v ∧ w'.ownsRow w.heap.size 3 1 v (ints (U8.els s.data.toList)).length ((ints (U8.els s.data.toList)).map (Value.int .i64)) ∧ Below w.heap.size w w'
theorem Try.infoInt : (Try.prog.info? 3).map (fun i => (i.zero, i.size, i.bytes)) = some (some (.int .i64 0), 1, 8) := by kernel_rfl

theorem heap_lt' {w : World} {k : Nat} {o : Obj} (h : w.heap[k]? = some o) : k < w.heap.size := (Array.getElem?_eq_some_iff.1 h).1

set_option maxRecDepth 100000 in
set_option maxHeartbeats 1000000 in
theorem decode_any (s : ByteArray) (hs : s.size ≤ 1000000) (w : World) : Calls Try.prog 33 #[.string s] w (DecP s w) := by
  obtain ⟨i0, hi, hz0, hz1, hz2⟩ := info_parts Try.infoInt
  obtain ⟨B, hB⟩ : ∃ B, B = w.heap.size := ⟨_, rfl⟩
  have HB := Lib.hid hB
  clear hB
  go_enter Try.func33, Try.ntmps33
  go_wp2
  rw [← HB.out]
  go_loopw [3] (fun v wr => ∃ (acc : List Nat) (p : Nat), wr.heap[B]? = some (.stringIter s p) ∧ p ≤ s.size ∧ U8.els s.data.toList = acc ++ U8.els (s.data.toList.drop p) ∧ acc.length ≤ p ∧
      wr.ownsRow (B + 1) 3 1 v (ints acc).length ((ints acc).map (Value.int .i64)) ∧ Below B w wr) (fun _ wr => s.size - wr.iterPos B)
  case atStart =>
    refine ⟨[], 0, ?_, Nat.zero_le _, by simp, Nat.le_refl _, World.ownsRow_nil _ _ _ _, ?_⟩
    · rw [HB.out]; exact heap_alloc_new w (.stringIter s 0)
    · rw [HB.out]; exact (Below.refl _ w).alloc (Nat.le_refl _) _
  case round =>
    obtain ⟨acc, p, hI, hp, he, hal, hown, hbel⟩ := hrel
    have HE := Lib.hid he
    clear he
    by_cases hlt : p < s.size
    · have hnx := fun ty => Lib.run_next_any_at (P := Try.prog) wr B s p ty hI hlt
      obtain ⟨wi, hwi⟩ : ∃ wi, wr.iterAt B s (p + (Utf8.decode s p).2) = wi := ⟨_, rfl⟩
      rw [hwi] at hnx
      have hIi : wi.heap[B]? = some (.stringIter s (p + (Utf8.decode s p).2)) := by rw [← hwi]; exact Lib.iterAt_heap _ _ _ _ _ hI
      have hgi : wr.grownBy wi (some B) := by
        rw [← hwi]
        exact ⟨rfl, rfl, rfl, by rw [Lib.iterAt_size]; exact Nat.le_refl _, fun k _ hk => Lib.iterAt_other wr B k s _ (fun e => hk (by rw [e]))⟩
      have hne : u3.ownBlock ≠ some B := by
        rcases hown.2 with ⟨rfl, _⟩ | ⟨g, cap, cur, rfl, hg, _⟩
        · simp [Value.ownBlock]
        · simp [Value.ownBlock]; omega
      have hob : ∀ k, u3.ownBlock = some k → B + 1 ≤ k := by
        intro k hk
        rcases hown.2 with ⟨rfl, _⟩ | ⟨g, cap, cur, rfl, hg, _⟩
        · simp [Value.ownBlock] at hk
        · simp [Value.ownBlock] at hk; omega
      have howi : wi.ownsRow (B + 1) 3 1 u3 (ints acc).length ((ints acc).map (Value.int .i64)) := hown.kept hgi (.inr hne)
      have hbi : Below B w wi := hbel.grown hgi (by have := heap_lt' hI; omega) (fun k e => by cases e; exact Nat.le_refl _)
      have him : wr.iterPos B = p := by simp [World.iterPos, hI]
      have hlen : p < s.data.toList.length := by rw [U8.size_len]; exact hlt
      have hw1 := U8.width_le hlen
      rw [Lib.decodeL_drop, U8.size_len] at hw1
      have hw0 := Lib.decode_width_pos s p hlt
      have hr := U8.els_round HE.out hlen
      rw [Lib.decodeL_drop] at hr
      have hrb := Lib.decodeL_rune (s.data.toList.drop p)
      rw [Lib.decodeL_drop] at hrb
      obtain ⟨⟨c, z⟩, hd⟩ : ∃ d, Utf8.decode s p = d := ⟨_, rfl⟩
      rw [hd] at hnx hIi hw1 hw0 hr hrb
      dsimp only at hnx hIi hw1 hw0 hr hrb
      have hsz : B < wi.heap.size := heap_lt' hIi
      have HR := Lib.hid hr
      have HI := Lib.hid hIi
      have HM := Lib.hid him
      have HB1 := Lib.hid hob
      have HB2 := Lib.hid hne
      clear hr hIi him hwi hgi hown hbel hI hd hne hob
      go_wp2_with (at_builtin; refine wpList_append_own _ rfl _ _ 24 rfl (B + 1) 3 i0 (.int .i64 0) 1 8 Try.underlying24 hi hz0 hz1 hz2 rfl (by decide) _ _ _ rfl (howi.alloc _) ⟨wi.heap.size, 0, none⟩ 1 1 [.int .i64 c] rfl rfl (cell_one_new _ _ _) (by intro u hu; simp at hu; subst hu; rfl) (by simp [ints]; unfold maxLen; omega) (by simp [ints]; omega) (by simp; omega) ?_; intro v' w1 hown' hgrow _)
      go_roundw
      case rel =>
        have hg : (wi.alloc (.cells #[.int .i64 c] 3)).grownBy w1 u3.ownBlock := hgrow
        have hI1 : w1.heap[B]? = some (.stringIter s (p + z)) := (hg.block B (by simp; omega) (fun e => HB2.out e.symm)).trans ((Below.heap_alloc _ _ _ hsz).trans HI.out)
        refine ⟨acc ++ [c], p + z, hI1, hw1, HR.out, by simp; omega, ?_, (hbi.alloc (by omega) _).grown hg (by simp; omega) (fun k e => by have := HB1.out k e; omega)⟩
        simpa [ints] using hown'
      case measure =>
        have hg : (wi.alloc (.cells #[.int .i64 c] 3)).grownBy w1 u3.ownBlock := hgrow
        have hI1 : w1.heap[B]? = some (.stringIter s (p + z)) := (hg.block B (by simp; omega) (fun e => HB2.out e.symm)).trans ((Below.heap_alloc _ _ _ hsz).trans HI.out)
        rw [HM.out]
        simp only [World.iterPos, hI1]
        omega
    · have hnx := fun ty => Lib.run_next_end_at (P := Try.prog) wr B s p ty hI hlt
      have hend := U8.els_end HE.out (by rw [U8.size_len]; omega)
      have HN := Lib.hid hend
      have HO := Lib.hid hown
      have HBL := Lib.hid hbel
      clear hend hown hbel hI
      go_wp2
      go_ret
      unfold DecP
      rw [HN.out, ← HB.out]
      have ho := HO.out
      refine ⟨_, rfl, ⟨ho.1, ?_⟩, HBL.out⟩
      rcases ho.2 with h | ⟨g, cap, cur, h1, h2, h3⟩
      · exact .inl h
      · exact .inr ⟨g, cap, cur, h1, by omega, h3⟩
end Go.Proofs.Ytgefbagojghmeaa
