/-
  What the reference's fill looks for, without the program; the fuel of a filling.
-/
import Derived.Test.YtgefbagojghmeaaBi4
namespace Go.Proofs.Ytgefbagojghmeaa
open Go.RowKit

/-- The first direction that is not 0. -/
def fnz (o : Int) : List Int → Int
  | [] => o
  | d :: l => if d = 0 then fnz o l else d
theorem nxt_fnz (e : Int) : ∀ (cs : List Int) (last : Int), (last = 1 ∨ last = 2) → nxt e last cs = fnz (own e) (dirs last cs)
  | [], _, _ => rfl
  | c :: cs, last, h => by
    rw [nxt, dirs]
    by_cases hc : c = 1 ∨ c = 2
    · rw [if_pos hc, if_pos hc, fnz, if_neg (by omega)]
    · rw [if_neg hc, if_neg hc]
      by_cases h3 : c = 3
      · rw [if_pos h3, if_pos h3, fnz, if_neg (by omega)]
      · rw [if_neg h3, if_neg h3, fnz, if_pos rfl, nxt_fnz e cs last h]
theorem fnz_drop {o : Int} {D : List Int} {j : Nat} (h : j < D.length) : fnz o (D.drop j) = if D.getD j 0 = 0 then fnz o (D.drop (j + 1)) else D.getD j 0 := by
  rw [drop_one h, fnz]
theorem dirs_zero : ∀ (cs : List Int) (last : Int), (last = 1 ∨ last = 2) → (∀ c ∈ cs, 0 ≤ c ∧ c ≤ 3) → ∀ j, j < cs.length → ((dirs last cs).getD j 0 = 0 ↔ cs.getD j 0 = 0)
  | [], _, _, _, j, h => by simp at h
  | c :: cs, last, hl, hr, j, h => by
    have hc := hr c (List.mem_cons_self ..)
    have hr' := fun x hx => hr x (List.mem_cons_of_mem _ hx)
    rw [dirs]
    by_cases h12 : c = 1 ∨ c = 2
    · rw [if_pos h12]
      cases j with
      | zero => exact Iff.rfl
      | succ j => exact dirs_zero cs c h12 hr' j (by simpa using h)
    · rw [if_neg h12]
      by_cases h3 : c = 3
      · rw [if_pos h3]
        cases j with
        | zero => show last = 0 ↔ c = 0; omega
        | succ j => exact dirs_zero cs last hl hr' j (by simpa using h)
      · rw [if_neg h3]
        cases j with
        | zero => show (0 : Int) = 0 ↔ c = 0; omega
        | succ j => exact dirs_zero cs last hl hr' j (by simpa using h)
theorem St.ahead {e : Int} {cs D P F : List Int} {i : Nat} {last : Int} (h : St e cs D P F i last) (hi : i < cs.length) (hc : cs.getD i 0 = 0) : F.getD i 0 = if last = fnz (own e) (D.drop (i + 1)) then Go.Proofs.Ytgefbagojghmeaa.strong e last else e := by
  obtain ⟨_, _, h3, h4⟩ := h.neut hi hc
  rw [h3, nxt_fnz e _ _ h4.2.2.2, ← h4.1]
/-- The last strong class, seen from behind. -/
def Back (cs D : List Int) (o : Int) (i : Nat) (last : Int) : Prop :=
  (∃ p, p < i ∧ cs.getD p 0 ≠ 0 ∧ D.getD p 0 = last ∧ ∀ q, p < q → q < i → cs.getD q 0 = 0) ∨ ((∀ q, q < i → cs.getD q 0 = 0) ∧ last = o)
theorem Back.start (cs D : List Int) (o : Int) : Back cs D o 0 o := .inr ⟨fun q h => by omega, rfl⟩
theorem Back.some {cs D : List Int} {o : Int} {i : Nat} {last : Int} (hc : cs.getD i 0 ≠ 0) (hd : D.getD i 0 = last) : Back cs D o (i + 1) last :=
  .inl ⟨i, by omega, hc, hd, fun q h1 h2 => by omega⟩
theorem Back.none {cs D : List Int} {o : Int} {i : Nat} {last : Int} (h : Back cs D o i last) (hc : cs.getD i 0 = 0) : Back cs D o (i + 1) last := by
  rcases h with ⟨p, h1, h2, h3, h4⟩ | ⟨h1, h2⟩
  · refine .inl ⟨p, by omega, h2, h3, fun q a b => ?_⟩
    by_cases hq : q = i
    · rw [hq]; exact hc
    · exact h4 q a (by omega)
  · refine .inr ⟨fun q a => ?_, h2⟩
    by_cases hq : q = i
    · rw [hq]; exact hc
    · exact h1 q (by omega)
theorem Back.found {cs D : List Int} {o : Int} {i : Nat} {last : Int} (h : Back cs D o i last) {j : Nat} (hj : j < i) (hc : cs.getD j 0 ≠ 0) (hz : ∀ q, j < q → q < i → cs.getD q 0 = 0) : D.getD j 0 = last := by
  rcases h with ⟨p, h1, h2, h3, h4⟩ | ⟨h1, h2⟩
  · have : p = j := by
      by_cases h : p < j
      · exact absurd (h4 j h hj) hc
      · by_cases h' : j < p
        · exact absurd (hz p h' h1) h2
        · omega
    rw [← this]; exact h3
  · exact absurd (h1 j hj) hc
theorem Back.all {cs D : List Int} {o : Int} {i : Nat} {last : Int} (h : Back cs D o i last) (hz : ∀ q, q < i → cs.getD q 0 = 0) : last = o := by
  rcases h with ⟨p, h1, h2, _⟩ | ⟨_, h2⟩
  · exact absurd (hz p h1) h2
  · exact h2

theorem items_cls0 {xs : List Int} {b : Nat} (hb : b ≤ xs.length) : ∀ (m a : Nat), b - a ≤ m → ∀ x ∈ items xs a b, x.2.1 ≠ x.1 → x.2.2 = 0 := by
  intro m
  induction m using Nat.strongRecOn with
  | ind m ih =>
  intro a hm x hx hne
  by_cases h : a < b
  · by_cases hi : initB (xs.getD a 0) = true
    · have hg := match_ge (xs := xs) (k := a) (by omega) hi
      rw [items_init h hb hi] at hx
      rcases List.mem_cons.1 hx with rfl | hx
      · rfl
      · exact ih (b - (matchV xs a + 1)) (by omega) (matchV xs a + 1) (Nat.le_refl _) x hx hne
    · rw [items_leaf h hb hi] at hx
      rcases List.mem_cons.1 hx with rfl | hx
      · exact absurd rfl hne
      · exact ih (b - (a + 1)) (by omega) (a + 1) (Nat.le_refl _) x hx hne
  · rw [items_nil (by omega)] at hx
    cases hx
theorem foldl_same {α β : Type} {f g : α → β → α} : ∀ (z : List β) (L : α), (∀ x ∈ z, ∀ L, f L x = g L x) → z.foldl f L = z.foldl g L
  | [], _, _ => rfl
  | x :: z, L, h => by
    rw [List.foldl_cons, List.foldl_cons, h x (List.mem_cons_self ..)]
    exact foldl_same z _ fun y hy => h y (List.mem_cons_of_mem _ hy)
theorem fillF_fuel {xs : List Int} : ∀ (f g a b : Nat) (e : Int) (L : List Int), b ≤ xs.length → Shut xs a b → b - a ≤ f → b - a ≤ g → fillF xs f a b e L = fillF xs g a b e L
  | 0, 0, _, _, _, _, _, _, _, _ => rfl
  | 0, g + 1, a, b, e, L, _, _, h, _ => by
    rw [fillF_eq, items_nil (by omega)]
    rfl
  | f + 1, 0, a, b, e, L, _, _, _, h => by
    rw [fillF_eq, items_nil (by omega)]
    rfl
  | f + 1, g + 1, a, b, e, L, hb, hs, hf, hg => by
    rw [fillF_eq, fillF_eq]
    refine foldl_same _ _ fun x hx L => ?_
    have hx1 := (List.of_mem_zip hx).1
    obtain ⟨h1, h2, _, _, h5⟩ := (items_ok hb (b - a) a (Nat.le_refl _)).2 x.1 hx1
    unfold fillStep
    split
    · rfl
    · rename_i hne
      rcases h5 with ⟨h6, _⟩ | ⟨h6, h7, h8, h9⟩
      · exact absurd h6 hne
      · have hs2 := hs x.1.1 h1 h2 h6
        rw [fillF_fuel f g (x.1.1 + 1) x.1.2.1 _ _ h9 (by rw [h7]; exact shut_inside (by omega) h6) (by omega) (by omega)]
end Go.Proofs.Ytgefbagojghmeaa
