/-
  utf8.Valid, over the library's contract; the tables that it reads.
-/
import Derived.Test.YtgefbagojghmeaaDoorU8V
import Derived.Test.YtgefbagojghmeaaDoorU8W15
namespace Go.Proofs.YtgefbagojghmeaaDoor
open Go.RowKit

/-- The two tables of the library's lie where they lie. -/
def Tabs (w : World) : Prop := Lib.Utf8Tabs (Tryd.laysValid_ren.g 3) (Tryd.laysValid_ren.g 4) w
theorem cell_lt {w : World} {b o : Nat} {v : Value} (h : w.cell? ⟨b, o, none⟩ = some v) : b < w.heap.size := by
  rcases Nat.lt_or_ge b w.heap.size with hlt | hge
  · exact hlt
  · exfalso
    simp [World.cell?, Array.getElem?_eq_none hge] at h
theorem Tabs.below {w w' : World} (h : Tabs w) (hb : Below w.heap.size w w') : Tabs w' := by
  obtain ⟨h1, h2⟩ := h
  refine ⟨fun c hc => ?_, fun i hi => ⟨?_, ?_⟩⟩
  · exact (hb.cell (p := ⟨_, c, none⟩) (cell_lt (h1 c hc))).trans (h1 c hc)
  · exact (hb.cell (p := ⟨_, 2 * i, none⟩) (cell_lt (h2 i hi).1)).trans (h2 i hi).1
  · exact (hb.cell (p := ⟨_, 2 * i + 1, none⟩) (cell_lt (h2 i hi).2)).trans (h2 i hi).2
theorem libvalid_any (s : ByteArray) (hs : s.size ≤ 1000000) (w : World) (hT : Tabs w) : Calls Tryd.prog 37 #[.string s] w (ValP s w) :=
  Any.utf8_ValidString Tryd.laysValid s w (by omega) hT
theorem valid_any (s : ByteArray) (hs : s.size ≤ 1000000) (w : World) (hT : Tabs w) : Calls Tryd.prog 24 #[.string s] w (ValP s w) := by
  obtain ⟨b, hb⟩ : ∃ b, Lib.validD s.data.toList = b := ⟨_, rfl⟩
  have hc := libvalid_any s hs w hT
  unfold ValP at hc ⊢
  rw [hb] at hc
  rw [hb]
  have HC := Lib.hid hc
  clear hc hb hT
  go_enter Tryd.func24, Tryd.ntmps24
  go_wp2_with fail
  refine HC.out.mono ?_
  rintro e w1 ⟨rfl, hb1⟩
  have HB1 := Lib.hid hb1
  clear hb1
  go_wp2
  go_ret
  exact ⟨rfl, HB1.out⟩
end Go.Proofs.YtgefbagojghmeaaDoor
