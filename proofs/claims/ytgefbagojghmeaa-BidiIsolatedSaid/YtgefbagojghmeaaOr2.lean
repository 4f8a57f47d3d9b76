/-
  The visual order: neighbours of the same level; without the program.
-/
import Derived.Test.YtgefbagojghmeaaOr0
namespace Go.Proofs.Ytgefbagojghmeaa
open Go.RowKit

theorem rr_acc (p : Nat → Bool) : ∀ (l acc : List Nat), ∃ X Y, rr p acc l = X ++ acc ++ Y ∧ ∀ z ∈ X ++ Y, z ∈ l
  | [], acc => ⟨[], [], by simp [rr], by simp⟩
  | x :: l, acc => by
    rw [rr]
    split
    · obtain ⟨X, Y, h, hm⟩ := rr_acc p l (x :: acc)
      refine ⟨X ++ [x], Y, by rw [h]; simp, ?_⟩
      intro z hz
      simp only [List.mem_append, List.mem_singleton] at hz
      rcases hz with (hz | rfl) | hz
      · exact List.mem_cons_of_mem _ (hm z (List.mem_append.2 (.inl hz)))
      · exact List.mem_cons_self ..
      · exact List.mem_cons_of_mem _ (hm z (List.mem_append.2 (.inr hz)))
    · refine ⟨[], x :: rr p [] l, by simp, ?_⟩
      intro z hz
      rw [List.nil_append] at hz
      rcases List.mem_cons.1 hz with rfl | hz
      · exact List.mem_cons_self ..
      · have := (rr_perm p l []).mem_iff.1 hz
        exact List.mem_cons_of_mem _ (by simpa using this)
/-- A part that is all in runs stands turned round in the answer. -/
theorem rr_part (p : Nat → Bool) (run Q : List Nat) (hrun : ∀ x ∈ run, p x = true) : ∀ (P acc : List Nat), ∃ X Y, rr p acc (P ++ run ++ Q) = X ++ run.reverse ++ Y ∧ ∀ z ∈ X ++ Y, z ∈ acc ++ P ++ Q
  | [], acc => by
    have key : ∀ (r a : List Nat), (∀ x ∈ r, p x = true) → rr p a (r ++ Q) = rr p (r.reverse ++ a) Q := by
      intro r
      induction r with
      | nil => intro a _; rfl
      | cons x r ih =>
        intro a h
        rw [List.cons_append, rr, h x (List.mem_cons_self ..), if_pos rfl, ih _ fun y hy => h y (List.mem_cons_of_mem _ hy)]
        simp
    rw [List.nil_append, key run acc hrun]
    obtain ⟨X, Y, h, hm⟩ := rr_acc p Q (run.reverse ++ acc)
    refine ⟨X, acc ++ Y, by rw [h]; simp, ?_⟩
    intro z hz
    simp only [List.mem_append] at hz ⊢
    rcases hz with hz | hz | hz
    · exact .inr (hm z (List.mem_append.2 (.inl hz)))
    · exact .inl (.inl hz)
    · exact .inr (hm z (List.mem_append.2 (.inr hz)))
  | x :: P, acc => by
    rw [List.cons_append, List.cons_append, rr]
    split
    · obtain ⟨X, Y, h, hm⟩ := rr_part p run Q hrun P (x :: acc)
      refine ⟨X, Y, h, ?_⟩
      intro z hz
      have := hm z hz
      simp only [List.mem_append, List.mem_cons] at this ⊢
      rcases this with ((h | h) | h) | h
      · exact .inl (.inr (.inl h))
      · exact .inl (.inl h)
      · exact .inl (.inr (.inr h))
      · exact .inr h
    · obtain ⟨X, Y, h, hm⟩ := rr_part p run Q hrun P []
      refine ⟨acc ++ x :: X, Y, by rw [h]; simp, ?_⟩
      intro z hz
      simp only [List.mem_append, List.mem_cons] at hz ⊢
      rcases hz with (hz | hz | hz) | hz
      · exact .inl (.inl hz)
      · exact .inl (.inr (.inl hz))
      · have := hm z (List.mem_append.2 (.inl hz))
        simp only [List.mem_append, List.not_mem_nil, false_or] at this
        rcases this with h | h
        · exact .inl (.inr (.inr h))
        · exact .inr h
      · have := hm z (List.mem_append.2 (.inr hz))
        simp only [List.mem_append, List.not_mem_nil, false_or] at this
        rcases this with h | h
        · exact .inl (.inr (.inr h))
        · exact .inr h
/-- An element that is in no run parts the list. -/
theorem rr_sep {p : Nat → Bool} {a : Nat} (ha : p a = false) : ∀ (P acc R : List Nat), rr p acc (P ++ a :: R) = rr p acc P ++ a :: rr p [] R
  | [], acc, R => by
    rw [List.nil_append]
    show (if p a then rr p (a :: acc) R else acc ++ a :: rr p [] R) = acc ++ a :: rr p [] R
    rw [ha]
    rfl
  | x :: P, acc, R => by
    rw [List.cons_append, rr, rr]
    split
    · exact rr_sep ha P _ R
    · rw [rr_sep ha P [] R]
      simp
/-- Neighbours in a list. -/
def Adj (l : List Nat) (a b : Nat) : Prop := ∃ A B, l = A ++ a :: b :: B
theorem stepO_adj_in {lv : List Int} {n : Nat} {l : List Nat} {a b : Nat} (h : Adj l a b) (ha : atLeast lv n a = true) (hb : atLeast lv n b = true) : Adj (stepO lv n l) b a := by
  obtain ⟨A, B, rfl⟩ := h
  obtain ⟨X, Y, e, _⟩ := rr_part (atLeast lv n) [a, b] B (by intro x hx; simp at hx; rcases hx with rfl | rfl <;> assumption) A []
  refine ⟨X, Y, ?_⟩
  unfold stepO
  rw [show A ++ a :: b :: B = A ++ [a, b] ++ B by simp, e]
  simp
theorem stepO_adj_out {lv : List Int} {n : Nat} {l : List Nat} {a b : Nat} (h : Adj l a b) (ha : atLeast lv n a = false) (hb : atLeast lv n b = false) : Adj (stepO lv n l) a b := by
  obtain ⟨A, B, rfl⟩ := h
  refine ⟨rr (atLeast lv n) [] A, rr (atLeast lv n) [] B, ?_⟩
  unfold stepO
  rw [rr_sep ha, rr_not hb]
theorem ordN_adj {lv : List Int} {a b : Nat} {g : Nat} (hg : lv.getD a 0 = g) (hb : lv.getD b 0 = g) : ∀ (n : Nat) (l : List Nat), (Adj l a b → if (min n g) % 2 = 0 then Adj (ordN lv n l) a b else Adj (ordN lv n l) b a) ∧ (Adj l b a → if (min n g) % 2 = 0 then Adj (ordN lv n l) b a else Adj (ordN lv n l) a b)
  | 0, l => by
    rw [Nat.zero_min]
    exact ⟨id, id⟩
  | n + 1, l => by
    obtain ⟨h1, h2⟩ := ordN_adj hg hb n (stepO lv (n + 1) l)
    rw [ordN]
    by_cases hn : n + 1 ≤ g
    · have ta : atLeast lv (n + 1) a = true := by unfold atLeast; rw [hg]; exact decide_eq_true (by omega)
      have tb : atLeast lv (n + 1) b = true := by unfold atLeast; rw [hb]; exact decide_eq_true (by omega)
      rw [show min (n + 1) g = n + 1 by omega]
      rw [show min n g = n by omega] at h1 h2
      refine ⟨fun h => ?_, fun h => ?_⟩
      · have := h2 (stepO_adj_in h ta tb)
        by_cases hp : n % 2 = 0
        · rw [if_pos hp] at this; rw [if_neg (by omega)]; exact this
        · rw [if_neg hp] at this; rw [if_pos (by omega)]; exact this
      · have := h1 (stepO_adj_in h tb ta)
        by_cases hp : n % 2 = 0
        · rw [if_pos hp] at this; rw [if_neg (by omega)]; exact this
        · rw [if_neg hp] at this; rw [if_pos (by omega)]; exact this
    · have ta : atLeast lv (n + 1) a = false := by unfold atLeast; rw [hg]; exact decide_eq_false (by omega)
      have tb : atLeast lv (n + 1) b = false := by unfold atLeast; rw [hb]; exact decide_eq_false (by omega)
      rw [show min (n + 1) g = g by omega]
      rw [show min n g = g by omega] at h1 h2
      exact ⟨fun h => h1 (stepO_adj_out h ta tb), fun h => h2 (stepO_adj_out h tb ta)⟩
theorem range_adj {n i : Nat} (h : i + 1 < n) : Adj (List.range n) i (i + 1) := by
  refine ⟨List.range i, (List.range (n - (i + 2))).map (i + 2 + ·), ?_⟩
  have e1 : List.range n = List.range (i + 2) ++ (List.range (n - (i + 2))).map (i + 2 + ·) := by
    rw [← List.range_add, show i + 2 + (n - (i + 2)) = n by omega]
  rw [e1, List.range_succ, List.range_succ]
  simp
theorem order_adj {lv : List Int} {i : Nat} (hok : okLv lv = true) (hi : i + 1 < lv.length) (he : lv.getD i 0 = lv.getD (i + 1) 0) : if lv.getD i 0 % 2 = 0 then Adj (order lv) i (i + 1) else Adj (order lv) (i + 1) i := by
  have hr : 0 ≤ lv.getD i 0 ∧ lv.getD i 0 ≤ 100 := by
    unfold okLv at hok
    rw [List.all_eq_true] at hok
    have h := hok (lv.getD i 0) (by
      have e : lv.getD i 0 = lv[i] := by simp [List.getD, show i < lv.length by omega]
      rw [e]
      exact List.getElem_mem _)
    simpa using h
  obtain ⟨g, hg⟩ : ∃ g : Nat, lv.getD i 0 = g := ⟨(lv.getD i 0).toNat, by omega⟩
  have h := (ordN_adj (lv := lv) hg (by rw [← he]; exact hg) 100 (List.range lv.length)).1 (range_adj hi)
  unfold order
  rw [if_pos hok, hg]
  rw [show min 100 g = g by omega] at h
  by_cases hp : g % 2 = 0
  · rw [if_pos hp] at h; rw [if_pos (by omega)]; exact h
  · rw [if_neg hp] at h; rw [if_neg (by omega)]; exact h
theorem order_perm {lv : List Int} (hok : okLv lv = true) : (order lv).Perm (List.range lv.length) := by
  unfold order
  rw [if_pos hok]
  exact ordN_perm _ _ _
/-- The places of elements: cell i holds the place of i, or -1. -/
def plStep (P : List Int) (k i : Nat) : List Int := P.set i k
def places (a : List Nat) (n : Nat) : Nat → List Int
  | 0 => List.replicate n (-1)
  | k + 1 => (places a n k).set (a.getD k 0) k
theorem places_len (a : List Nat) (n : Nat) : ∀ k, (places a n k).length = n
  | 0 => List.length_replicate ..
  | k + 1 => by rw [places, List.length_set]; exact places_len a n k
/-- Ahead of round k, the place of an element that has not come is -1, and that of the j-th is j. -/
theorem places_at {a : List Nat} {n : Nat} (hn : a.Nodup) (hlt : ∀ x ∈ a, x < n) : ∀ k, k ≤ a.length → (∀ j, j < k → (places a n k).getD (a.getD j 0) 0 = j) ∧ (∀ j, k ≤ j → j < a.length → (places a n k).getD (a.getD j 0) 0 = -1)
  | 0, _ => by
    refine ⟨fun j h => by omega, fun j _ hj => ?_⟩
    have : a.getD j 0 < n := hlt _ (by
      have e : a.getD j 0 = a[j] := by simp [List.getD, hj]
      rw [e]
      exact List.getElem_mem hj)
    rw [places, List.getD_eq_getElem?_getD, List.getElem?_replicate, if_pos this]
    rfl
  | k + 1, hk => by
    obtain ⟨h1, h2⟩ := places_at hn hlt k (by omega)
    have hlt' : ∀ j, j < a.length → a.getD j 0 < n := fun j hj => hlt _ (by
      have e : a.getD j 0 = a[j] := by simp [List.getD, hj]
      rw [e]
      exact List.getElem_mem hj)
    have hne : ∀ i j, i < a.length → j < a.length → i ≠ j → a.getD i 0 ≠ a.getD j 0 := by
      intro i j hi hj hij e
      have e1 : a.getD i 0 = a[i] := by simp [List.getD, hi]
      have e2 : a.getD j 0 = a[j] := by simp [List.getD, hj]
      rw [e1, e2] at e
      rcases Nat.lt_or_gt_of_ne hij with h | h
      · exact List.pairwise_iff_getElem.1 hn i j hi hj h e
      · exact List.pairwise_iff_getElem.1 hn j i hj hi h e.symm
    have hset : ∀ x y : Nat, x < n → ((places a n k).set x k).getD y 0 = if x = y then (k : Int) else (places a n k).getD y 0 := by
      intro x y hx
      rw [List.getD_eq_getElem?_getD, List.getElem?_set, List.getD_eq_getElem?_getD]
      have hl := places_len a n k
      split
      · rw [if_pos (by omega)]
        rfl
      · rfl
    refine ⟨fun j hj => ?_, fun j hj1 hj2 => ?_⟩
    · rw [places, hset _ _ (hlt' k (by omega))]
      by_cases hjk : j = k
      · rw [hjk, if_pos rfl]
      · rw [if_neg (hne k j (by omega) (by omega) (by omega))]
        exact h1 j (by omega)
    · rw [places, hset _ _ (hlt' k (by omega)), if_neg (hne k j (by omega) hj2 (by omega))]
      exact h2 j (by omega) hj2
theorem places_adj {a : List Nat} {n x y : Nat} (hn : a.Nodup) (hlt : ∀ z ∈ a, z < n) (h : Adj a x y) : (places a n a.length).getD y 0 = (places a n a.length).getD x 0 + 1 := by
  obtain ⟨A, B, rfl⟩ := h
  have hp := (places_at hn hlt _ (Nat.le_refl _)).1
  have h1 := hp A.length (by simp)
  have h2 := hp (A.length + 1) (by simp)
  have e1 : (A ++ x :: y :: B).getD A.length 0 = x := by simp [List.getD]
  have e2 : (A ++ x :: y :: B).getD (A.length + 1) 0 = y := by simp [List.getD]
  rw [e1] at h1
  rw [e2] at h2
  rw [h1, h2]
  omega
theorem order_nodup {lv : List Int} (hok : okLv lv = true) : (order lv).Nodup := (order_perm hok).nodup_iff.2 List.nodup_range
theorem order_lt {lv : List Int} (hok : okLv lv = true) : ∀ z ∈ order lv, z < lv.length := fun _ hx => List.mem_range.1 ((order_perm hok).mem_iff.1 hx)
theorem order_len {lv : List Int} (hok : okLv lv = true) : (order lv).length = lv.length := by rw [(order_perm hok).length_eq, List.length_range]
/-- What the law BidiOrder asks of neighbours. -/
theorem order_law {lv : List Int} {i : Nat} (hok : okLv lv = true) (hi : i + 1 < lv.length) (he : lv.getD i 0 = lv.getD (i + 1) 0) :
    (places (order lv) lv.length lv.length).getD (i + 1) 0 - (places (order lv) lv.length lv.length).getD i 0 = 1 - 2 * (lv.getD i 0 % 2) := by
  have h := order_adj hok hi he
  have hl := order_len hok
  by_cases hp : lv.getD i 0 % 2 = 0
  · rw [if_pos hp] at h
    have := places_adj (order_nodup hok) (order_lt hok) h
    rw [hl] at this
    omega
  · rw [if_neg hp] at h
    have := places_adj (order_nodup hok) (order_lt hok) h
    rw [hl] at this
    omega
end Go.Proofs.Ytgefbagojghmeaa
