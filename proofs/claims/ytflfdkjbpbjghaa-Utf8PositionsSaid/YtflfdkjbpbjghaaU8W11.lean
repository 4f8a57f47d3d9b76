/-
  calqueref01.Boundaries: a new slice of the boundaries. calqueref01.Offset: the first boundary with a line and a column, or the error of what does not exist.
-/
import Derived.Test.YtflfdkjbpbjghaaU8W6
import Derived.Test.YtflfdkjbpbjghaaU8W8
import Derived.Test.YtflfdkjbpbjghaaU8W10
import Derived.Deep.DeepMust
namespace Go.Proofs.Ytflfdkjbpbjghaa
open Go.RowKit

theorem own_below {w w' : World} {base : Nat} {e : TypeId} {size n : Nat} {v : Value} {xs : List Value} (h : w.ownsRow base e size v n xs) (hb : Below w.heap.size w w') : w'.ownsRow base e size v n xs := by
  refine ⟨h.1, ?_⟩
  rcases h.2 with h | ⟨g, cap, cur, h1, h2, h3, h4⟩
  · exact .inl h
  · exact .inr ⟨g, cap, cur, h1, h2, (hb.block g (heap_lt h3)).trans h3, h4⟩
theorem own_base {w : World} {base base' : Nat} {e : TypeId} {size n : Nat} {v : Value} {xs : List Value} (h : w.ownsRow base e size v n xs) (hb : base' ≤ base) : w.ownsRow base' e size v n xs := by
  refine ⟨h.1, ?_⟩
  rcases h.2 with h | ⟨g, cap, cur, h1, h2, h3⟩
  · exact .inl h
  · exact .inr ⟨g, cap, cur, h1, by omega, h3⟩
theorem own_ge {w : World} {base : Nat} {e : TypeId} {size n : Nat} {v : Value} {xs : List Value} (h : w.ownsRow base e size v n xs) : ∀ k, v.ownBlock = some k → base ≤ k := fun k hk => (h.lt k hk).1

def BndP (s : ByteArray) (w : World) (e : Ending) (w' : World) : Prop :=
  ∃ v, e = .returned v ∧ w'.ownsRow w.heap.size 3 1 v (ints (U8.bnds s.data.toList)).length ((ints (U8.bnds s.data.toList)).map (Value.int .i64)) ∧ Below w.heap.size w w'

/-- The walk over the boundaries stands at q. -/
structure AtB (s : ByteArray) (pre : List U8.Pos) (q : U8.Pos) : Prop where
  le : q.1 ≤ s.size
  eq : U8.poss s.data.toList = pre ++ U8.possFrom q (s.data.toList.drop q.1)
  few : pre.length ≤ q.1
theorem AtB.start (s : ByteArray) : AtB s [] (0, 1, 1) := ⟨Nat.zero_le _, by rw [List.drop_zero]; rfl, Nat.le_refl _⟩
theorem AtB.step {s : ByteArray} {pre : List U8.Pos} {q : U8.Pos} {c z : Nat} (h : AtB s pre q) (hq : q.1 < s.size) (hd : Lib.decodeL (s.data.toList.drop q.1) = (c, z)) :
    1 ≤ z ∧ q.1 + z ≤ s.size ∧ c ≤ 1114111 ∧ ∃ q' : U8.Pos, q'.1 = q.1 + z ∧ AtB s (pre ++ [q]) q' := by
  have hlen : q.1 < s.data.toList.length := by rw [U8.size_len]; exact hq
  have h1 := Lib.decodeL_width (s.data.toList.drop q.1)
  have h2 := U8.width_le hlen
  have h3 := Lib.decodeL_rune (s.data.toList.drop q.1)
  have h4 := U8.poss_round h.eq hlen
  rw [hd] at h1 h2 h3 h4
  dsimp only at h1 h2 h3
  rw [U8.size_len] at h2
  refine ⟨h1, h2, h3, U8.stepP q (c, z), rfl, h2, h4, ?_⟩
  have h5 : (U8.stepP q (c, z)).1 = q.1 + z := rfl
  have := h.few
  rw [h5, List.length_append, List.length_singleton]; omega
theorem AtB.done {s : ByteArray} {pre : List U8.Pos} {q : U8.Pos} (h : AtB s pre q) (hq : ¬ q.1 < s.size) : U8.bnds s.data.toList = pre.map (·.1) ++ [q.1] := by
  unfold U8.bnds
  rw [U8.poss_end h.eq (by rw [U8.size_len]; have := h.le; omega), List.map_append]
  rfl

set_option maxRecDepth 100000 in
set_option maxHeartbeats 1000000 in
theorem bnds_any (s : ByteArray) (hs : s.size ≤ 1000000) (w : World) : Calls Try.prog 12 #[.string s] w (BndP s w) := by
  obtain ⟨i0, hi, hz0, hz1, hz2⟩ := info_parts Try.infoInt
  obtain ⟨B, hB⟩ : ∃ B, B = w.heap.size := ⟨_, rfl⟩
  have HB := Lib.hid hB
  clear hB
  go_enter Try.func12, Try.ntmps12
  go_wp2
  rw [← HB.out]
  go_loopw [3, 4] (fun v i wr => ∃ (pre : List U8.Pos) (q : U8.Pos), i = .int .i64 q.1 ∧ AtB s pre q ∧ wr.ownsRow B 3 1 v (ints (pre.map (·.1) ++ [q.1])).length ((ints (pre.map (·.1) ++ [q.1])).map (Value.int .i64)) ∧ Below B w wr) (fun _ i _ => s.size - (intOf i).toNat)
  case atStart =>
    refine ⟨[], (0, 1, 1), rfl, AtB.start s, ?_, ?_⟩
    · rw [HB.out]; exact World.ownsRow_lit w #[.int .i64 0] 1 (Nat.le_refl _) (by decide) rfl
    · rw [HB.out]; exact (Below.refl _ w).alloc (Nat.le_refl _) _
  case round =>
    obtain ⟨pre, ⟨qo, ql⟩, rfl, hat, hown, hbel⟩ := hrel
    dsimp only at hown
    have hle := hat.le
    have hfew := hat.few
    dsimp only at hle hfew
    have HA := Lib.hid hat
    clear hat
    by_cases hlt : qo < s.size
    · obtain ⟨⟨c, z⟩, hd⟩ : ∃ d, Lib.decodeL (s.data.toList.drop qo) = d := ⟨_, rfl⟩
      obtain ⟨z1, z2, z3, q', hq', hn⟩ := HA.out.step hlt hd
      have HC := Lib.hid (next_at s qo c z (by omega) hlt hd)
      have HN := Lib.hid hn
      have HQ := Lib.hid hq'
      clear hd hn hq'
      dsimp only at z2
      go_wp2_with fail
      refine (HC.out _).mono ?_
      rintro e w1 ⟨rfl, hb⟩
      have ho1 := own_below hown hb
      have hb1 : Below B w w1 := hbel.trans (hb.mono (by have := hbel.size; rw [HB.out]; exact this))
      have hsz : B ≤ w1.heap.size := by have := hb1.size; rw [HB.out]; exact this
      have HO := Lib.hid (own_ge ho1)
      clear hb hown hbel HC
      go_wp2_with (at_builtin; refine wpList_append_own _ rfl _ _ 32 rfl B 3 i0 (.int .i64 0) 1 8 Try.underlying32 hi hz0 hz1 hz2 rfl (by decide) _ _ _ rfl (ho1.alloc _) ⟨w1.heap.size, 0, none⟩ 1 1 [.int .i64 (qo + z)] rfl rfl (cell_one_new _ _ _) (by intro u hu; simp at hu; subst hu; rfl) (by simp [ints]; unfold maxLen; omega) (by simp [ints]; omega) (by simp; omega) ?_; intro v' w2 hown' hgrow _)
      have hg : (w1.alloc (.cells #[.int .i64 (qo + z)] 3)).grownBy w2 u3.ownBlock := hgrow
      have hb2 := (hb1.alloc hsz _).grown hg (by simp; omega) (fun k e => HO.out k e)
      go_roundw
      case rel =>
        refine ⟨pre ++ [(qo, ql)], q', by rw [HQ.out]; go_num, HN.out, ?_, hb2⟩
        rw [HQ.out]
        simpa [ints] using hown'
      case measure => simp [intOf]; omega
    · have hd := HA.out.done hlt
      have HD := Lib.hid hd
      have HO := Lib.hid hown
      have HBL := Lib.hid hbel
      clear hd hown hbel
      go_wp2
      go_ret
      unfold BndP
      rw [HD.out, ← HB.out]
      exact ⟨_, rfl, HO.out, HBL.out⟩
end Go.Proofs.Ytflfdkjbpbjghaa
