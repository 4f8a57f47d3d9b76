/-
  strings.Builder: WriteString at this program; what a builder needs of the heap to stay a builder.
-/
import Derived.Test.YtgefbagojghmeaaBld2
namespace Go.Proofs.Ytgefbagojghmeaa
open Go.RowKit
def StrP (B b : Nat) (bs : List Value) (s : ByteArray) (w : World) (e : Ending) (w' : World) : Prop :=
  e = .returned (.tuple #[.int .i64 s.size, .nilIface]) ∧ BldAt B b (bs ++ Lib.strCells s) w' ∧ Below B w w' ∧ Lib.OthersKept 5 (some b) w w'

set_option maxHeartbeats 4000000 in
set_option maxRecDepth 100000 in
theorem writeString_any (B b : Nat) (bs : List Value) (s : ByteArray) (w : World) (h : Bld B b bs w) (hlen : bs.length + s.size ≤ 140737488355328) (hBw : B ≤ w.heap.size) :
    Calls Try.prog 47 #[.pointer (some ⟨b, 0, none⟩), .string s] w (StrP B b bs s w) := by
  obtain ⟨i0, hi, hz0, hz1, hz2⟩ := info_parts Try.layBx.infoByte
  go_enter Try.func47, Try.ntmps47
  go_wp2_with fail
  refine (copy_any B b bs _ h).mono ?_
  rintro e w1 ⟨rfl, h1, hb1, hk1⟩
  obtain ⟨hB, v, hbk, hown, hne⟩ := h1
  have c0 : w1.cell? ⟨b, 0, none⟩ = some (.pointer (some ⟨b, 0, none⟩)) := by rw [Lib.cell_of_heap hbk]; rfl
  have c1 : w1.cell? ⟨b, 1, none⟩ = some v := by rw [Lib.cell_of_heap hbk]; rfl
  go_wp2_with (at_builtin; refine Lib.wpList_append_own_stringF _ rfl _ _ 60 9 rfl B 5 i0 Try.underlying60 Try.underlying9 hi hz0 hz1 hz2 _ _ _ rfl hown s rfl ?c3 ?c4 ?c5 ?_)
  case c3 => unfold maxLen; omega
  case c4 => omega
  case c5 => have := hb1.size; omega
  intro v' w2 hown' hgrow _
  have hlt : b < w1.heap.size := by
    rcases Nat.lt_or_ge b w1.heap.size with h' | h'
    · exact h'
    · simp [Array.getElem?_eq_none h'] at hbk
  have hb2 : w2.heap[b]? = some (.cells #[.pointer (some ⟨b, 0, none⟩), v] 62 (0, 0)) := by
    rw [hgrow.block b hlt (fun e => hne e.symm)]
    exact hbk
  have d0 : w2.cell? ⟨b, 0, none⟩ = some (.pointer (some ⟨b, 0, none⟩)) := by rw [Lib.cell_of_heap hb2]; rfl
  have d1 : w2.cell? ⟨b, 1, none⟩ = some v := by rw [Lib.cell_of_heap hb2]; rfl
  have f1 : w2.frozen? ⟨b, 1, none⟩ = false := Lib.frozen_of_heap hb2 1
  obtain ⟨ao, n', cap, rfl⟩ : ∃ ao n' cap, v' = .slice ao n' cap := by
    rcases hown'.2 with ⟨hv, _⟩ | ⟨g, cap, cur, fz, hv, _⟩
    · exact ⟨_, _, _, hv⟩
    · exact ⟨_, _, _, hv⟩
  go_wp2
  go_ret2
  refine ⟨rfl, ?_, ?_, (hk1.grown hgrow (Lib.ownsRowF_kind hown)).setCell ⟨b, 1, none⟩ rfl _⟩
  · exact Lib.BuilderAtF.put (T := 62) (e := 5) hB hb2 (bs' := bs ++ Lib.strCells s) (by simpa [Lib.strCells_length] using hown') Try.layBx.neB5
  · exact (hb1.grown hgrow (by have := hb1.size; omega) (fun k hk => (hown.lt k hk).1)).setCell (p := ⟨b, 1, none⟩) hB _

/-- A builder stays a builder where its block and every row of bytes stay. -/
theorem bld_kept {B b : Nat} {bs : List Value} {w w' : World} (h : Bld B b bs w) (hk : ∀ (k : Nat) (o : Obj), w.heap[k]? = some o → (∃ c fz, o = .cells c 5 fz ∨ o = .cells c 62 fz) → w'.heap[k]? = some o) : Bld B b bs w' := by
  have one : ∀ p, Lib.BuilderAtF 62 5 B b p bs w → Lib.BuilderAtF 62 5 B b p bs w' := by
    rintro p ⟨hB, v, hbk, hown, hne⟩
    refine ⟨hB, v, hk _ _ hbk ⟨_, _, .inr rfl⟩, ?_, hne⟩
    obtain ⟨hl, h1 | ⟨g, cap, cur, fz, rfl, hbg, hg, r⟩⟩ := hown
    · exact ⟨hl, .inl h1⟩
    · exact ⟨hl, .inr ⟨g, cap, cur, fz, rfl, hbg, hk _ _ hg ⟨_, _, .inl rfl⟩, r⟩⟩
  rcases h with h | h
  · exact .inl (one _ h)
  · exact .inr (one _ h)
theorem bld_below {B b : Nat} {bs : List Value} {w w' : World} (h : Bld B b bs w) (hb : Below w.heap.size w w') : Bld B b bs w' :=
  bld_kept h fun k o ho _ => by rw [hb.block k (Array.getElem?_eq_some_iff.1 ho).1]; exact ho
/-- Another row grows, of cells of another type. -/
theorem bld_grown {B b : Nat} {bs : List Value} {w w' : World} (h : Bld B b bs w) {r : Option Nat} {e : TypeId} (hg : w.grownBy w' r) (hr : ∀ g, r = some g → ∃ c fz, w.heap[g]? = some (.cells c e fz)) (h1 : e ≠ 5) (h2 : e ≠ 62) : Bld B b bs w' :=
  bld_kept h fun k o ho hx => by
    rw [hg.block k (Array.getElem?_eq_some_iff.1 ho).1 ?_]
    · exact ho
    · intro hk
      obtain ⟨c, fz, hc⟩ := hr k hk.symm
      rw [ho] at hc
      cases hc
      obtain ⟨c', fz', h | h⟩ := hx
      · cases h; exact h1 rfl
      · cases h; exact h2 rfl
end Go.Proofs.Ytgefbagojghmeaa
