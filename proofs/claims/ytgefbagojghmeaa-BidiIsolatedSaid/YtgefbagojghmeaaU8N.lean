/-
  Code points, numbers put in their place, and the encodings of numbers one after the other: without the program.
-/
import Derived.Test.YtgefbagojghmeaaRows
import Derived.Test.YtgefbagojghmeaaU8c
import Derived.Test.YtgefbagojghmeaaU8d
import Derived.WalkKit
import Derived.WalkSpells
import Derived.WalkLawsBesides
import Derived.Laws.BytesArg
import Derived.Lib.Hide
import Derived.Deep.Draws
import Derived.Lib.RuneBytes
namespace Go.Proofs.Ytgefbagojghmeaa
open Go.RowKit

/-- A code point. -/
def pointB (n : Int) : Bool := decide (0 ≤ n ∧ n ≤ 1114111 ∧ (n < 55296 ∨ 57343 < n))
theorem belowN {B : Nat} {a w : World} (h : Below B a w) (n : Nat) : Below B a (w.drewN n) := ⟨h.os, h.tape, h.output, h.size, h.block⟩
theorem ret_bool {a b : Bool} (h : a = b) : Ending.returned (.bool a) = .returned (.bool b) := by rw [h]

/-- A number that is no code point stands for a replacement. -/
def norm (n : Int) : Nat := if pointB n then n.toNat else 65533
def encS (xs : List Int) : ByteArray := ⟨(U8.encN (xs.map norm)).toArray⟩
theorem encS_nil : encS [] = ⟨#[]⟩ := rfl
theorem encS_snoc (xs : List Int) (n : Int) : encS (xs ++ [n]) = encS xs ++ ⟨(U8.oneN (norm n)).toArray⟩ := by
  unfold encS
  rw [List.map_append, U8.encN_append]
  apply ByteArray.ext
  show _ = (_ ++ _ : ByteArray).data
  rw [ByteArray.data_append]
  simp [U8.encN]
theorem take_more {xs : List Int} {k : Nat} (hk : k < xs.length) : xs.take (k + 1) = xs.take k ++ [xs.getD k 0] := by
  rw [List.take_succ_eq_append_getElem hk]
  simp [List.getD, hk]
theorem encS_size (xs : List Int) : (encS xs).size ≤ 4 * xs.length := by
  rw [← U8.size_len]
  unfold encS
  simp only
  have := U8.encN_len (xs.map norm)
  rwa [List.length_map] at this
theorem norm_nat {n : Nat} (h : U8.isPt n) : norm n = n := by
  unfold norm pointB
  rw [if_pos (by have := h.1; have := h.2; simp; omega)]; rfl
theorem rune_one {n : Nat} (h : U8.isPt n) : Lib.encodeRune (n : Int) = U8.oneN n := by
  have e : ∀ m : Nat, (m : Int).toNat.toUInt8 = UInt8.ofNat m := fun m => rfl
  obtain ⟨h1, h2⟩ := h
  unfold Lib.encodeRune U8.oneN
  by_cases a : n < 128
  · rw [if_pos a, Lib.encodeRuneZ_one (by omega) (by omega)]; rfl
  by_cases b : n < 2048
  · rw [if_neg a, if_pos b, Lib.encodeRuneZ_two (by omega) (by omega)]; rfl
  by_cases c : n < 65536
  · rw [if_neg a, if_neg b, if_pos c, Lib.encodeRuneZ_three (by omega)]; rfl
  · rw [if_neg a, if_neg b, if_neg c, Lib.encodeRuneZ_four (by omega) (by omega)]; rfl
theorem norm_pt (n : Int) : U8.isPt (norm n) := by
  unfold norm pointB U8.isPt
  split
  · rename_i h; simp at h; omega
  · omega
theorem norm_cells (n : Int) : Lib.runeCells (norm n : Int) = Lib.byteCells (U8.oneN (norm n)) := by
  rw [← Lib.byteCells_encodeRune, rune_one (norm_pt n)]
end Go.Proofs.Ytgefbagojghmeaa
