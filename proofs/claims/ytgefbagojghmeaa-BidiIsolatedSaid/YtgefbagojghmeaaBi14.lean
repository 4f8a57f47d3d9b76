/-
  Levels of a segment: parity and bounds; without the program.
-/
import Derived.Test.YtgefbagojghmeaaBi12
namespace Go.Proofs.Ytgefbagojghmeaa
open Go.RowKit

theorem mt_term : ∀ (l : List Int) (h j : Nat), mt h l = some j → initB (l.getD j 0) = false ∧ termB (l.getD j 0) = true
  | [], h, j, hm => by simp [mt] at hm
  | c :: l, h, j, hm => by
    unfold mt at hm
    split at hm
    · obtain ⟨q, hq, rfl⟩ := Option.map_eq_some_iff.1 hm
      exact mt_term l _ q hq
    · rename_i hc
      split at hm
      · rename_i ht
        split at hm
        · cases hm
          exact ⟨by simpa using hc, ht⟩
        · obtain ⟨q, hq, rfl⟩ := Option.map_eq_some_iff.1 hm
          exact mt_term l _ q hq
      · obtain ⟨q, hq, rfl⟩ := Option.map_eq_some_iff.1 hm
        exact mt_term l _ q hq
/-- A list cut at its first isolate's end. -/
theorem cut_list {l : List Int} {j : Nat} (h : j < l.length) : l = l.take j ++ l.getD j 0 :: l.drop (j + 1) := by
  rw [← drop_one h, List.take_append_drop]
theorem levI_len : ∀ (f : Nat) (l : List Int) (e last : Int), l.length ≤ f → (levI f e last l).length = l.length
  | f, [], e, last, _ => by rw [levI_nil]
  | 0, c :: l, _, _, h => by simp at h
  | f + 1, c :: l, e, last, h => by
    have h : l.length ≤ f := by simpa using h
    rw [levI]
    split
    · cases hm : mt 1 l with
      | none =>
        dsimp only
        rw [List.length_cons, levI_len f l _ _ h, List.length_cons]
      | some j =>
        have hj := (mt_some l 0 0 j hm).1
        dsimp only
        rw [List.length_cons, List.length_append, List.length_cons, levI_len f _ _ _ (by rw [List.length_take]; omega), levI_len f _ _ _ (by rw [List.length_drop]; omega), List.length_take, List.length_drop, List.length_cons]
        omega
    · rw [List.length_cons, levI_len f l _ _ h, List.length_cons]
/-- What an element's level is: its parity, and its bounds. -/
def Good (lo hi c v : Int) : Prop := (bcl c = 1 → v % 2 = 0) ∧ (bcl c = 2 → v % 2 = 1) ∧ (bcl c = 3 → v % 2 = 0) ∧ lo ≤ v ∧ v ≤ hi
theorem Good.wide {lo hi lo' hi' c v : Int} (h : Good lo hi c v) (h1 : lo' ≤ lo) (h2 : hi ≤ hi') : Good lo' hi' c v := ⟨h.1, h.2.1, h.2.2.1, by have := h.2.2.2.1; omega, by have := h.2.2.2.2; omega⟩
def AllGood (lo hi : Int) (l v : List Int) : Prop := ∀ x ∈ l.zip v, Good lo hi x.1 x.2
theorem AllGood.wide {lo hi lo' hi' : Int} {l v : List Int} (h : AllGood lo hi l v) (h1 : lo' ≤ lo) (h2 : hi ≤ hi') : AllGood lo' hi' l v := fun x hx => (h x hx).wide h1 h2
theorem AllGood.cons {lo hi c v : Int} {l w : List Int} (h : Good lo hi c v) (k : AllGood lo hi l w) : AllGood lo hi (c :: l) (v :: w) := by
  intro x hx
  rw [List.zip_cons_cons] at hx
  rcases List.mem_cons.1 hx with rfl | hx
  · exact h
  · exact k x hx
theorem AllGood.app {lo hi : Int} {a b v w : List Int} (hl : a.length = v.length) (h : AllGood lo hi a v) (k : AllGood lo hi b w) : AllGood lo hi (a ++ b) (v ++ w) := by
  intro x hx
  rw [List.zip_append hl] at hx
  rcases List.mem_append.1 hx with hx | hx
  · exact h x hx
  · exact k x hx
theorem hv_good {e last c : Int} {cs : List Int} {x : Int} (hl : last = 1 ∨ last = 2) (hx : bcl x = c) : Good e (e + 2) x (hv e last c cs) := by
  have hr := bcl_range x
  unfold Good hv
  rw [hx] at hr ⊢
  by_cases h : c = 1 ∨ c = 2
  · rw [if_pos h]
    unfold strong
    split <;> omega
  · rw [if_neg h]
    by_cases h3 : c = 3
    · rw [if_pos h3]
      unfold lv1 strong
      rw [if_neg h]
      split
      · omega
      · split <;> omega
    · rw [if_neg h3]
      unfold strong
      split
      · split <;> omega
      · omega
theorem inner_bound {e c : Int} {k : Nat} {inn : List Int} : e + 1 ≤ innerL e c k inn ∧ innerL e c k inn ≤ e + 2 := by
  unfold innerL
  split <;> omega
theorem bcl_pdi {c : Int} (h : initB c = false ∧ termB c = true) : bcl c = 0 := by
  obtain ⟨_, h2⟩ := h
  simp [termB] at h2
  rw [h2]
  decide
theorem nl_or {last c : Int} (h : last = 1 ∨ last = 2) : nl last c = 1 ∨ nl last c = 2 := by
  unfold nl
  split <;> assumption
theorem levI_good : ∀ (f : Nat) (l : List Int) (e last : Int), l.length ≤ f → 0 ≤ e → (last = 1 ∨ last = 2) → AllGood e (e + 2 * mh 0 l + 2) l (levI f e last l)
  | f, [], e, last, _, _, _ => by
    intro x hx
    simp at hx
  | 0, c :: l, _, _, h, _, _ => by simp at h
  | f + 1, c :: l, e, last, h, he, hl => by
    have h : l.length ≤ f := by simpa using h
    rw [levI, mh_cons]
    by_cases hi : initB c = true
    · rw [if_pos hi, if_pos hi]
      have hmg := mh_ge l 1
      have hb0 := bcl_init hi
      cases hm : mt 1 l with
      | none =>
        have hn : mh (0 + 1) l = mh 0 l + 1 := mt_none l 0 1 hm
        dsimp only
        obtain ⟨q1, q2⟩ := inner_bound (e := e) (c := c) (k := f) (inn := l)
        refine AllGood.cons ((hv_good hl hb0).wide (Int.le_refl _) (by omega)) ?_
        exact (levI_good f l _ _ h (by omega) (own_or _)).wide (by omega) (by omega)
      | some j =>
        obtain ⟨hj, m1, m2⟩ := mt_some l 0 0 j hm
        have m1' : mh 1 (l.take j) = mh 0 (l.take j) + 1 := mt_none (l.take j) 0 1 m1
        have m2' : mh 1 l = max (mh 1 (l.take j)) (mh 0 (l.drop (j + 1))) := m2
        have hmt := mt_term l 1 j hm
        dsimp only
        obtain ⟨q1, q2⟩ := inner_bound (e := e) (c := c) (k := f) (inn := l.take j)
        refine AllGood.cons ((hv_good hl hb0).wide (Int.le_refl _) (by omega)) ?_
        have hlt : (l.take j).length ≤ f := by rw [List.length_take]; omega
        have hld : (l.drop (j + 1)).length ≤ f := by rw [List.length_drop]; omega
        obtain ⟨V, hV⟩ : ∃ V, levI f (innerL e c f (l.take j)) (own (innerL e c f (l.take j))) (l.take j) ++ hv e last 0 (clsL f (l.drop (j + 1))) :: levI f e last (l.drop (j + 1)) = V := ⟨_, rfl⟩
        rw [hV]
        rw [cut_list hj, ← hV]
        refine AllGood.app (levI_len f _ _ _ hlt).symm ((levI_good f _ _ _ hlt (by omega) (own_or _)).wide (by omega) ?_) (AllGood.cons ((hv_good hl (bcl_pdi hmt)).wide (Int.le_refl _) ?_) ((levI_good f _ _ _ hld he hl).wide (Int.le_refl _) ?_))
        all_goals
          rw [← cut_list hj]
          show _ ≤ e + 2 * ((mh 1 l : Nat) : Int) + 2
          omega
    · rw [if_neg hi, if_neg hi]
      have hmm : mh 0 l ≤ (if termB c = true then max 0 (mh (0 - 1) l) else mh 0 l) := by split <;> simp
      refine AllGood.cons ((hv_good hl rfl).wide (Int.le_refl _) (by omega)) ?_
      exact (levI_good f l e _ h he (nl_or hl)).wide (Int.le_refl _) (by omega)
end Go.Proofs.Ytgefbagojghmeaa
