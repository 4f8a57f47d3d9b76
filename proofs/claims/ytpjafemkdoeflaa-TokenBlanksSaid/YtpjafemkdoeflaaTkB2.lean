/-
  strings.Builder: copyCheck and WriteByte at this program; the builder's bytes behind each.
-/
import Derived.Test.YtpjafemkdoeflaaTkB1
import Derived.Lib.FrozenHead2
import Derived.Lib.OthersKept
import Derived.Test.YtpjafemkdoeflaaTkS
namespace Go.Proofs.Ytpjafemkdoeflaa
open Go.RowKit
/-- The builder in a block. -/
abbrev Bld (B b : Nat) (bs : List Value) (w : World) : Prop := Lib.IsBuilderF 51 5 B b bs w
abbrev BldAt (B b : Nat) (bs : List Value) (w : World) : Prop := Lib.BuilderAtF 51 5 B b (.pointer (some ⟨b, 0, none⟩)) bs w
def CopyP (B b : Nat) (bs : List Value) (w : World) (e : Ending) (w' : World) : Prop :=
  e = .returned (.tuple #[]) ∧ BldAt B b bs w' ∧ Below B w w' ∧ Lib.OthersKept 5 (some b) w w'

set_option maxHeartbeats 1000000 in
set_option maxRecDepth 100000 in
theorem copy_used (b : Nat) (w : World) (h0 : w.cell? ⟨b, 0, none⟩ = some (.pointer (some ⟨b, 0, none⟩))) :
    Calls Try.prog 36 #[.pointer (some ⟨b, 0, none⟩)] w fun e w' => e = .returned (.tuple #[]) ∧ w' = w := by
  obtain ⟨j, hj, _⟩ := Option.map_eq_some_iff.1 Try.layBx.sizeBuilder
  have hj : Try.prog.info? 51 = some j := hj
  go_enter Try.func36, Try.ntmps36
  go_wp2
  rw [Lib.run_neq_ptr_same w _ Try.underlying49 hj]
  go_wp2
  go_end0
  exact ⟨rfl, rfl⟩

set_option maxHeartbeats 1000000 in
set_option maxRecDepth 100000 in
theorem copy_fresh (b : Nat) (w : World) (h0 : w.cell? ⟨b, 0, none⟩ = some (.pointer none)) (hsh : w.shape? b = some (51, 2)) (hfz : w.frozen? ⟨b, 0, none⟩ = false) :
    Calls Try.prog 36 #[.pointer (some ⟨b, 0, none⟩)] w fun e w' => e = .returned (.tuple #[]) ∧ w' = w.setCell ⟨b, 0, none⟩ (.pointer (some ⟨b, 0, none⟩)) := by
  obtain ⟨j, hj, hjs⟩ := Option.map_eq_some_iff.1 Try.layBx.sizeBuilder
  have hj : Try.prog.info? 51 = some j := hj
  go_enter Try.func36, Try.ntmps36
  go_wp2
  rw [Lib.run_to_unsafe w ⟨b, 0, none⟩ Try.underlying49 Try.underlying62 hj (by rw [hjs]; decide) hsh (Nat.zero_lt_succ 1)]
  simp only [Result.andThen]
  rw [Oper.upon_value]
  go_wp2
  rw [run_callFunc_extern Try.func41 (by kernel_rfl) (by kernel_rfl) (by kernel_rfl) (e := Extern.AbiNoEscape.same) (by kernel_rfl)]
  rw [Lib.run_noEscape]
  simp only [Result.andThen]
  rw [Oper.upon_value]
  go_wp2
  rw [Lib.run_from_unsafe w ⟨b, 0, none⟩ Try.underlying62 Try.underlying49 hj hsh Try.layBx.liesBuilder]
  simp only [Result.andThen]
  rw [Oper.upon_value]
  go_wp2
  go_end0
  exact ⟨rfl, rfl⟩

theorem copy_any (B b : Nat) (bs : List Value) (w : World) (h : Bld B b bs w) : Calls Try.prog 36 #[.pointer (some ⟨b, 0, none⟩)] w (CopyP B b bs w) := by
  rcases h with h | h
  · refine (copy_fresh b w h.cell0 h.shape h.frozen0).mono ?_
    rintro e w' ⟨rfl, rfl⟩
    exact ⟨rfl, h.used _, (Below.refl B w).setCell (p := ⟨b, 0, none⟩) h.1 _, (Lib.OthersKept.refl _ _ w).setCell ⟨b, 0, none⟩ rfl _⟩
  · refine (copy_used b w h.cell0).mono ?_
    rintro e w' ⟨rfl, rfl⟩
    exact ⟨rfl, h, Below.refl B _, Lib.OthersKept.refl _ _ _⟩

def ByteP (B b : Nat) (bs : List Value) (c : Int) (w : World) (e : Ending) (w' : World) : Prop :=
  e = .returned .nilIface ∧ BldAt B b (bs ++ [.int .u8 c]) w' ∧ Below B w w' ∧ Lib.OthersKept 5 (some b) w w'

set_option maxHeartbeats 4000000 in
set_option maxRecDepth 100000 in
theorem writeByte_any (B b : Nat) (bs : List Value) (c : Int) (w : World) (h : Bld B b bs w) (hlen : bs.length + 1 ≤ 140737488355328) (hBw : B ≤ w.heap.size) :
    Calls Try.prog 24 #[.pointer (some ⟨b, 0, none⟩), .int .u8 c] w (ByteP B b bs c w) := by
  obtain ⟨i0, hi, hz0, hz1, hz2⟩ := info_parts Try.layBx.infoByte
  go_enter Try.func24, Try.ntmps24
  go_wp2_with fail
  refine (copy_any B b bs _ h).mono ?_
  rintro e w1 ⟨rfl, h1, hb1, hk1⟩
  obtain ⟨hB, v, hbk, hown, hne⟩ := h1
  have c0 : w1.cell? ⟨b, 0, none⟩ = some (.pointer (some ⟨b, 0, none⟩)) := by rw [Lib.cell_of_heap hbk]; rfl
  have c1 : w1.cell? ⟨b, 1, none⟩ = some v := by rw [Lib.cell_of_heap hbk]; rfl
  go_wp2_with (at_builtin; refine wpList_append_ownF _ rfl _ _ 38 rfl B 5 i0 (.int .u8 0) 1 1 Try.underlying38 hi hz0 hz1 hz2 rfl (by decide) _ _ _ rfl (hown.alloc _) ⟨w1.heap.size, 0, none⟩ 1 1 [.int .u8 c] rfl rfl ?c1 ?c2 ?c3 ?c4 ?c5 ?_)
  case c1 =>
    intro j u hj
    match j, hj with
    | 0, hj => simp at hj; subst hj; simp [Addr.add]
  case c2 => intro u hu; simp at hu; subst hu; rfl
  case c3 => unfold maxLen; omega
  case c4 => omega
  case c5 => have := hb1.size; simp; omega
  intro v' w2 hown' hgrow _
  have hlt : b < w1.heap.size := by
    rcases Nat.lt_or_ge b w1.heap.size with h' | h'
    · exact h'
    · simp [Array.getElem?_eq_none h'] at hbk
  have hb2 : w2.heap[b]? = some (.cells #[.pointer (some ⟨b, 0, none⟩), v] 51 (0, 0)) := by
    rw [hgrow.block b (by simp; omega) (fun e => hne e.symm), Lib.alloc_old w1 _ b hlt]
    exact hbk
  have d1 : w2.cell? ⟨b, 1, none⟩ = some v := by rw [Lib.cell_of_heap hb2]; rfl
  have f1 : w2.frozen? ⟨b, 1, none⟩ = false := Lib.frozen_of_heap hb2 1
  obtain ⟨ao, n', cap, rfl⟩ : ∃ ao n' cap, v' = .slice ao n' cap := by
    rcases hown'.2 with ⟨hv, _⟩ | ⟨g, cap, cur, fz, hv, _⟩
    · exact ⟨_, _, _, hv⟩
    · exact ⟨_, _, _, hv⟩
  go_wp2
  go_ret
  refine ⟨rfl, ?_, ?_, ((hk1.alloc _).grown hgrow (Lib.ownsRowF_kind (hown.alloc _))).setCell ⟨b, 1, none⟩ rfl _⟩
  · exact Lib.BuilderAtF.put (T := 51) (e := 5) hB hb2 (bs' := bs ++ [.int .u8 c]) (by rw [List.length_append]; exact hown') Try.layBx.neB5
  · exact ((hb1.alloc (by have := hb1.size; omega) _).grown hgrow (by have := hb1.size; simp; omega) (fun k hk => (hown.lt k hk).1)).setCell (p := ⟨b, 1, none⟩) hB _

/-- A builder stays a builder where its block and every row of bytes stay. -/
theorem bld_kept {B b : Nat} {bs : List Value} {w w' : World} (h : Bld B b bs w) (hk : ∀ (k : Nat) (o : Obj), w.heap[k]? = some o → (∃ c fz, o = .cells c 5 fz ∨ o = .cells c 51 fz) → w'.heap[k]? = some o) : Bld B b bs w' := by
  have one : ∀ p, Lib.BuilderAtF 51 5 B b p bs w → Lib.BuilderAtF 51 5 B b p bs w' := by
    rintro p ⟨hB, v, hbk, hown, hne⟩
    refine ⟨hB, v, hk _ _ hbk ⟨_, _, .inr rfl⟩, ?_, hne⟩
    obtain ⟨hl, h1 | ⟨g, cap, cur, fz, rfl, hbg, hg, r⟩⟩ := hown
    · exact ⟨hl, .inl h1⟩
    · exact ⟨hl, .inr ⟨g, cap, cur, fz, rfl, hbg, hk _ _ hg ⟨_, _, .inl rfl⟩, r⟩⟩
  rcases h with h | h
  · exact .inl (one _ h)
  · exact .inr (one _ h)
theorem bld_below {B b : Nat} {bs : List Value} {w w' : World} (h : Bld B b bs w) (hb : Below w.heap.size w w') : Bld B b bs w' :=
  bld_kept h fun k o ho _ => by rw [hb.block k (Array.getElem?_eq_some_iff.1 ho).1]; exact ho
/-- Another row grows, of cells of another type. -/
theorem bld_grown {B b : Nat} {bs : List Value} {w w' : World} (h : Bld B b bs w) {r : Option Nat} {e : TypeId} (hg : w.grownBy w' r) (hr : ∀ g, r = some g → ∃ c fz, w.heap[g]? = some (.cells c e fz)) (h1 : e ≠ 5) (h2 : e ≠ 51) : Bld B b bs w' :=
  bld_kept h fun k o ho hx => by
    rw [hg.block k (Array.getElem?_eq_some_iff.1 ho).1 ?_]
    · exact ho
    · intro hk
      obtain ⟨c, fz, hc⟩ := hr k hk.symm
      rw [ho] at hc
      cases hc
      obtain ⟨c', fz', h | h⟩ := hx
      · cases h; exact h1 rfl
      · cases h; exact h2 rfl
end Go.Proofs.Ytpjafemkdoeflaa
