/-
  Plain facts on UTF-8 with no program in sight: the elements of a list of bytes ('els'), and the positions of its boundaries ('poss'), by the model's own decoder ('Lib.decodeL').
-/
import Derived.Lib.ValidLaws
import Derived.Lib.RuneCountTail
namespace Go.Proofs.Ytgefbagojghmeaa
namespace U8
open Go.Lib

/-- The elements, with fuel. -/
def elsF : Nat → List UInt8 → List Nat
  | 0, _ => []
  | n + 1, l => if l = [] then [] else (decodeL l).1 :: elsF n (l.drop (decodeL l).2)
def els (l : List UInt8) : List Nat := elsF l.length l

theorem elsF_fuel : ∀ (n m : Nat) (l : List UInt8), l.length ≤ n → l.length ≤ m → elsF n l = elsF m l
  | 0, m, l, hn, _ => by
    have : l = [] := List.eq_nil_of_length_eq_zero (by omega)
    subst this
    cases m <;> simp [elsF]
  | n + 1, 0, l, _, hm => by
    have : l = [] := List.eq_nil_of_length_eq_zero (by omega)
    subst this
    simp [elsF]
  | n + 1, m + 1, l, hn, hm => by
    unfold elsF
    by_cases hne : l = []
    · simp [hne]
    · have hw := decodeL_width l
      have hl : 0 < l.length := List.length_pos_iff.2 hne
      rw [if_neg hne, if_neg hne, elsF_fuel n m (l.drop (decodeL l).2) (by rw [List.length_drop]; omega) (by rw [List.length_drop]; omega)]

theorem els_nil : els [] = [] := rfl
theorem els_step (l : List UInt8) (hne : l ≠ []) : els l = (decodeL l).1 :: els (l.drop (decodeL l).2) := by
  have hl : 0 < l.length := List.length_pos_iff.2 hne
  have hw := decodeL_width l
  obtain ⟨n, hn⟩ : ∃ n, l.length = n + 1 := ⟨l.length - 1, by omega⟩
  unfold els
  rw [hn]
  show (if l = [] then [] else _) = _
  rw [if_neg hne, elsF_fuel n (l.drop (decodeL l).2).length _ (by rw [List.length_drop]; omega) (Nat.le_refl _)]

theorem els_length_le : ∀ (n : Nat) (l : List UInt8), l.length ≤ n → (els l).length ≤ l.length
  | 0, l, h => by
    have : l = [] := List.eq_nil_of_length_eq_zero (by omega)
    subst this; simp [els_nil]
  | n + 1, l, h => by
    by_cases hne : l = []
    · subst hne; simp [els_nil]
    · have hw := decodeL_width l
      have hl : 0 < l.length := List.length_pos_iff.2 hne
      rw [els_step l hne]
      have := els_length_le n (l.drop (decodeL l).2) (by rw [List.length_drop]; omega)
      rw [List.length_drop] at this
      simp; omega
theorem els_len (l : List UInt8) : (els l).length ≤ l.length := els_length_le _ l (Nat.le_refl _)

theorem els_rune : ∀ (n : Nat) (l : List UInt8), l.length ≤ n → ∀ c ∈ els l, c ≤ 1114111
  | 0, l, h => by
    have : l = [] := List.eq_nil_of_length_eq_zero (by omega)
    subst this; simp [els_nil]
  | n + 1, l, h => by
    by_cases hne : l = []
    · subst hne; simp [els_nil]
    · have hw := decodeL_width l
      have hl : 0 < l.length := List.length_pos_iff.2 hne
      rw [els_step l hne]
      intro c hc
      rcases List.mem_cons.1 hc with rfl | hc
      · exact decodeL_rune l
      · exact els_rune n (l.drop (decodeL l).2) (by rw [List.length_drop]; omega) c hc

/-- What some rounds have gathered: 'acc' ahead of 'pos'. -/
theorem els_round {l : List UInt8} {acc : List Nat} {pos : Nat} (h : els l = acc ++ els (l.drop pos)) (hp : pos < l.length) :
    els l = (acc ++ [(decodeL (l.drop pos)).1]) ++ els (l.drop (pos + (decodeL (l.drop pos)).2)) := by
  have hne : l.drop pos ≠ [] := by
    intro e
    have := congrArg List.length e
    simp at this; omega
  rw [h, els_step _ hne, List.drop_drop]
  simp
theorem els_end {l : List UInt8} {acc : List Nat} {pos : Nat} (h : els l = acc ++ els (l.drop pos)) (hp : l.length ≤ pos) : els l = acc := by
  rw [h, List.drop_of_length_le hp, els_nil, List.append_nil]
theorem width_le {l : List UInt8} {pos : Nat} (hp : pos < l.length) : pos + (decodeL (l.drop pos)).2 ≤ l.length := by
  have hne : l.drop pos ≠ [] := by
    intro e
    have := congrArg List.length e
    simp at this; omega
  have := decodeL_le _ hne
  rw [List.length_drop] at this
  omega

/-! ### Positions: (offset, line, column) -/
abbrev Pos := Nat × Nat × Nat
def stepP (p : Pos) (d : Nat × Nat) : Pos := (p.1 + d.2, if d.1 = 10 then (p.2.1 + 1, 1) else (p.2.1, p.2.2 + 1))
def possF : Nat → Pos → List UInt8 → List Pos
  | 0, p, _ => [p]
  | n + 1, p, l => if l = [] then [p] else p :: possF n (stepP p (decodeL l)) (l.drop (decodeL l).2)
def poss (l : List UInt8) : List Pos := possF l.length (0, 1, 1) l
def possFrom (p : Pos) (l : List UInt8) : List Pos := possF l.length p l

theorem possF_fuel : ∀ (n m : Nat) (p : Pos) (l : List UInt8), l.length ≤ n → l.length ≤ m → possF n p l = possF m p l
  | 0, m, p, l, hn, _ => by
    have : l = [] := List.eq_nil_of_length_eq_zero (by omega)
    subst this
    cases m <;> simp [possF]
  | n + 1, 0, p, l, _, hm => by
    have : l = [] := List.eq_nil_of_length_eq_zero (by omega)
    subst this
    simp [possF]
  | n + 1, m + 1, p, l, hn, hm => by
    unfold possF
    by_cases hne : l = []
    · simp [hne]
    · have hw := decodeL_width l
      have hl : 0 < l.length := List.length_pos_iff.2 hne
      rw [if_neg hne, if_neg hne, possF_fuel n m _ (l.drop (decodeL l).2) (by rw [List.length_drop]; omega) (by rw [List.length_drop]; omega)]
theorem possFrom_nil (p : Pos) : possFrom p [] = [p] := rfl
theorem possFrom_step (p : Pos) (l : List UInt8) (hne : l ≠ []) : possFrom p l = p :: possFrom (stepP p (decodeL l)) (l.drop (decodeL l).2) := by
  have hl : 0 < l.length := List.length_pos_iff.2 hne
  have hw := decodeL_width l
  obtain ⟨n, hn⟩ : ∃ n, l.length = n + 1 := ⟨l.length - 1, by omega⟩
  unfold possFrom
  rw [hn]
  show (if l = [] then [p] else _) = _
  rw [if_neg hne, possF_fuel n (l.drop (decodeL l).2).length _ _ (by rw [List.length_drop]; omega) (Nat.le_refl _)]
theorem poss_eq (l : List UInt8) : poss l = possFrom (0, 1, 1) l := rfl

/-- After some rounds: 'pre' has come, the walk stands at p = (pos, line, col). -/
theorem poss_round {l : List UInt8} {pre : List Pos} {p : Pos} (h : poss l = pre ++ possFrom p (l.drop p.1)) (hp : p.1 < l.length) :
    poss l = (pre ++ [p]) ++ possFrom (stepP p (decodeL (l.drop p.1))) (l.drop (stepP p (decodeL (l.drop p.1))).1) := by
  have hne : l.drop p.1 ≠ [] := by
    intro e
    have := congrArg List.length e
    simp at this; omega
  rw [h, possFrom_step _ _ hne, List.drop_drop]
  simp [stepP]
theorem poss_end {l : List UInt8} {pre : List Pos} {p : Pos} (h : poss l = pre ++ possFrom p (l.drop p.1)) (hp : p.1 = l.length) : poss l = pre ++ [p] := by
  rw [h, List.drop_of_length_le (by omega), possFrom_nil]

end U8
end Go.Proofs.Ytgefbagojghmeaa
