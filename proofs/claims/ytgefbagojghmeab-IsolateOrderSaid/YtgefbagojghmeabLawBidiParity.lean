/-
  Several texts in one.
-/
import Derived.Test.YtgefbagojghmeabBi13
import Derived.Test.YtgefbagojghmeabU8W7
import Derived.Test.YtgefbagojghmeabIs5
import Derived.Test.YtgefbagojghmeabBi14
import Derived.Deep.DeepCutAuto
import Derived.Deep.CutBlock
import Derived.BigQuiet
namespace Go.Proofs.Ytgefbagojghmeab
open Go.RowKit

theorem IsInts.nil (w : World) (B : Nat) : IsInts w B (.slice none 0 0) [] := ⟨none, 0, rfl, fun h => by simp at h⟩
/-- What Levels answers, read as a list. -/
def LvOut (xs : List Int) (rtl : Bool) : List Int := if 30 < mh 0 xs then [] else lev xs (eOf rtl)
def LvErr (xs : List Int) : Int := if 30 < mh 0 xs then 6 else 0
theorem LevelsP.read {xs : List Int} {rtl : Bool} {w w' : World} {e : Ending} (h : LevelsP xs rtl w e w') : ∃ v, e = .returned (.tuple #[v, .int .i64 (LvErr xs)]) ∧ IsInts w' w'.heap.size v (LvOut xs rtl) ∧ Below w.heap.size w w' := by
  obtain ⟨h1, h2⟩ := h
  unfold LvErr LvOut
  rcases h1 with ⟨h3, rfl⟩ | ⟨h3, r, rfl, ho⟩
  · rw [if_pos h3, if_pos h3]
    exact ⟨_, rfl, IsInts.nil _ _, h2⟩
  · rw [if_neg (by omega), if_neg (by omega)]
    exact ⟨_, rfl, IsInts.of_own (by rw [lev_len]; exact ho), h2⟩
theorem levelsR_any (s : ByteArray) (rtl : Bool) (hs : s.size ≤ 400) (w : World) : Calls Try.prog 12 #[.string s, .bool rtl] w fun e w' => ∃ v, e = .returned (.tuple #[v, .int .i64 (LvErr (ints (U8.els s.data.toList)))]) ∧ IsInts w' w'.heap.size v (LvOut (ints (U8.els s.data.toList)) rtl) ∧ Below w.heap.size w w' :=
  (levels_any s rtl hs w).mono fun _ _ h => h.read
end Go.Proofs.Ytgefbagojghmeab
namespace Go.Proofs.Ytgefbagojghmeab
open Go.RowKit

theorem lev_levI (xs : List Int) (e : Int) : lev xs e = levI xs.length e (own e) xs := by
  unfold lev
  rw [fill_lev (xs.length + 1) 0 xs.length e _ xs.length (Nat.zero_le _) (Nat.le_refl _) (shut_all xs) (List.length_replicate ..) (by omega) (by omega), seg_all, List.take_zero, List.nil_append, List.drop_eq_nil_of_le (by rw [List.length_replicate]; exact Nat.le_refl _), List.append_nil]
theorem lev_good (xs : List Int) (e : Int) (he : 0 ≤ e) : AllGood e (e + 2 * mh 0 xs + 2) xs (lev xs e) := by
  rw [lev_levI]
  exact levI_good _ _ _ _ (Nat.le_refl _) he (own_or e)
theorem lev_at {xs : List Int} {e : Int} (he : 0 ≤ e) {i : Nat} (hi : i < xs.length) : Good e (e + 2 * mh 0 xs + 2) (xs.getD i 0) ((lev xs e).getD i 0) := by
  have h := lev_good xs e he
  have hl : i < (lev xs e).length := by rw [lev_len]; exact hi
  have hm : (xs.getD i 0, (lev xs e).getD i 0) ∈ xs.zip (lev xs e) := by
    rw [List.mem_iff_getElem?]
    exact ⟨i, by rw [List.getElem?_zip_eq_some]; exact ⟨by simp [List.getD, hi], by simp [List.getD, hl]⟩⟩
  exact h _ hm
theorem mh_bound (xs : List Int) : mh 0 xs ≤ xs.length := by
  have := mh_len xs 0
  omega

theorem par_hi1 (D : Nat) (y : Int) (hD : D ≤ 1000) (h : y ≤ 1 + 2 * D + 2) : decide (IntKind.i64.wrap (IntKind.i64.wrap (1 + IntKind.i64.wrap (2 * (D : Int))) + 2) < y) = false := by
  have hw2 : IntKind.i64.wrap (2 * (D : Int)) = 2 * D := by rw [IntKind.wrap_i64]; omega
  rw [hw2, show IntKind.i64.wrap (1 + 2 * (D : Int)) = 1 + 2 * D by rw [IntKind.wrap_i64]; omega, show IntKind.i64.wrap (1 + 2 * (D : Int) + 2) = 1 + 2 * D + 2 by rw [IntKind.wrap_i64]; omega]
  exact decide_eq_false (by omega)
theorem par_hi0 (D : Nat) (y : Int) (hD : D ≤ 1000) (h : y ≤ 2 * D + 2) : decide (IntKind.i64.wrap (IntKind.i64.wrap (0 + IntKind.i64.wrap (2 * (D : Int))) + 2) < y) = false ∧ decide (IntKind.i64.wrap (IntKind.i64.wrap (IntKind.i64.wrap (2 * (D : Int))) + 2) < y) = false ∧ decide (IntKind.i64.wrap (IntKind.i64.wrap (2 * (D : Int)) + 2) < y) = false := by
  have hw2 : IntKind.i64.wrap (2 * (D : Int)) = 2 * D := by rw [IntKind.wrap_i64]; omega
  rw [hw2, show IntKind.i64.wrap (0 + 2 * (D : Int)) = 2 * D by rw [IntKind.wrap_i64]; omega, hw2, show IntKind.i64.wrap (2 * (D : Int) + 2) = 2 * D + 2 by rw [IntKind.wrap_i64]; omega]
  exact ⟨decide_eq_false (by omega), decide_eq_false (by omega), decide_eq_false (by omega)⟩

end Go.Proofs.Ytgefbagojghmeab
