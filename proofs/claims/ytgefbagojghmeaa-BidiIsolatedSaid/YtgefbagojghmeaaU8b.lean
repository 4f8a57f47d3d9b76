/-
  Plain laws on positions (no program in sight): find by offset, find by line and column, positions increase.
-/
import Derived.Test.YtgefbagojghmeaaU8
namespace Go.Proofs.Ytgefbagojghmeaa
namespace U8
open Go.Lib

def ltP (p q : Pos) : Prop := p.1 < q.1 ∧ (p.2.1 < q.2.1 ∨ (p.2.1 = q.2.1 ∧ p.2.2 < q.2.2))
theorem ltP_trans {p q r : Pos} (h : ltP p q) (k : ltP q r) : ltP p r := by
  obtain ⟨h1, h2⟩ := h; obtain ⟨k1, k2⟩ := k
  exact ⟨by omega, by omega⟩
theorem ltP_step (p : Pos) (d : Nat × Nat) (hd : 1 ≤ d.2) : ltP p (stepP p d) := by
  unfold stepP
  by_cases h : d.1 = 10
  · rw [if_pos h]; exact ⟨by simp; omega, .inl (by simp)⟩
  · rw [if_neg h]; exact ⟨by simp; omega, .inr ⟨by simp, by simp⟩⟩

theorem possFrom_ge : ∀ (n : Nat) (p : Pos) (l : List UInt8), l.length ≤ n → (possFrom p l).Pairwise ltP ∧ ∀ q ∈ possFrom p l, q = p ∨ ltP p q
  | 0, p, l, h => by
    have : l = [] := List.eq_nil_of_length_eq_zero (by omega)
    subst this
    rw [possFrom_nil]; simp
  | n + 1, p, l, h => by
    by_cases hne : l = []
    · subst hne; rw [possFrom_nil]; simp
    · have hw := decodeL_width l
      have hl : 0 < l.length := List.length_pos_iff.2 hne
      have ih := possFrom_ge n (stepP p (decodeL l)) (l.drop (decodeL l).2) (by rw [List.length_drop]; omega)
      have hs := ltP_step p (decodeL l) hw
      rw [possFrom_step p l hne]
      refine ⟨List.pairwise_cons.2 ⟨fun q hq => ?_, ih.1⟩, fun q hq => ?_⟩
      · rcases ih.2 q hq with rfl | hlt
        · exact hs
        · exact ltP_trans hs hlt
      · rcases List.mem_cons.1 hq with rfl | hq
        · exact .inl rfl
        · rcases ih.2 q hq with rfl | hlt
          · exact .inr hs
          · exact .inr (ltP_trans hs hlt)
theorem poss_pairwise (l : List UInt8) : (poss l).Pairwise ltP := (possFrom_ge _ (0, 1, 1) l (Nat.le_refl _)).1

/-- Bounds. -/
def okP (p : Pos) : Prop := 1 ≤ p.2.1 ∧ 1 ≤ p.2.2 ∧ p.2.1 + p.2.2 ≤ p.1 + 2
theorem okP_start : okP (0, 1, 1) := ⟨by simp, by simp, by simp⟩
theorem okP_step {p : Pos} (h : okP p) (d : Nat × Nat) (hd : 1 ≤ d.2) : okP (stepP p d) := by
  obtain ⟨h1, h2, h3⟩ := h
  unfold stepP
  by_cases e : d.1 = 10
  · rw [if_pos e]; exact ⟨by simp, by simp, by simp; omega⟩
  · rw [if_neg e]; exact ⟨by simp; omega, by simp, by simp; omega⟩
theorem possFrom_ok : ∀ (n : Nat) (p : Pos) (l : List UInt8), l.length ≤ n → okP p → ∀ q ∈ possFrom p l, okP q ∧ q.1 ≤ p.1 + l.length
  | 0, p, l, h, hp => by
    have : l = [] := List.eq_nil_of_length_eq_zero (by omega)
    subst this
    rw [possFrom_nil]; simpa using hp
  | n + 1, p, l, h, hp => by
    by_cases hne : l = []
    · subst hne; rw [possFrom_nil]; simpa using hp
    · have hw := decodeL_width l
      have hwl := decodeL_le l hne
      have hl : 0 < l.length := List.length_pos_iff.2 hne
      rw [possFrom_step p l hne]
      intro q hq
      rcases List.mem_cons.1 hq with rfl | hq
      · exact ⟨hp, by omega⟩
      · have := possFrom_ok n (stepP p (decodeL l)) (l.drop (decodeL l).2) (by rw [List.length_drop]; omega) (okP_step hp _ hw) q hq
        refine ⟨this.1, ?_⟩
        have h2 := this.2
        rw [List.length_drop] at h2
        have : (stepP p (decodeL l)).1 = p.1 + (decodeL l).2 := rfl
        omega
theorem poss_ok (l : List UInt8) : ∀ q ∈ poss l, okP q ∧ q.1 ≤ l.length := by
  intro q hq
  have := possFrom_ok _ (0, 1, 1) l (Nat.le_refl _) okP_start q hq
  simpa using this

/-- At: the position with an offset. -/
def atS (l : List UInt8) (off : Int) : Option Pos := (poss l).find? fun p => (p.1 : Int) == off
/-- Offset: the first position with a line and a column. -/
def offS (l : List UInt8) (line col : Int) : Option Pos := (poss l).find? fun p => (p.2.1 : Int) == line && (p.2.2 : Int) == col

theorem find_pre {α : Type} {f : α → Bool} {L pre rest : List α} {x : α} (h : L = pre ++ x :: rest) (hn : ∀ y ∈ pre, f y = false) (hx : f x = true) : L.find? f = some x := by
  subst h
  rw [List.find?_append, List.find?_eq_none.2 (by intro y hy; simp [hn y hy])]
  simp [hx]
theorem find_none {α : Type} {f : α → Bool} {L : List α} (hn : ∀ y ∈ L, f y = false) : L.find? f = none :=
  List.find?_eq_none.2 (by intro y hy; simp [hn y hy])
/-- In a list that increases strictly a test that tells two unequal ones apart finds each of its members. -/
theorem find_self {f : Pos → Pos → Bool} (hf : ∀ p, f p p = true) (hlt : ∀ p q, ltP p q → f q p = false) : ∀ (L : List Pos), L.Pairwise ltP → ∀ p ∈ L, L.find? (f p) = some p
  | [], _, p, hp => by simp at hp
  | q :: L, hL, p, hp => by
    rw [List.pairwise_cons] at hL
    rcases List.mem_cons.1 hp with rfl | hp
    · simp [hf]
    · rw [List.find?_cons, hlt q p (hL.1 p hp)]
      exact find_self hf hlt L hL.2 p hp
theorem atS_mem (l : List UInt8) (p : Pos) (hp : p ∈ poss l) : atS l (p.1 : Int) = some p :=
  find_self (f := fun p q => ((q.1 : Int) == (p.1 : Int))) (by simp) (by intro p q h; have := h.1; simp; omega) _ (poss_pairwise l) p hp
theorem offS_mem (l : List UInt8) (p : Pos) (hp : p ∈ poss l) : offS l (p.2.1 : Int) (p.2.2 : Int) = some p :=
  find_self (f := fun p q => ((q.2.1 : Int) == (p.2.1 : Int) && (q.2.2 : Int) == (p.2.2 : Int))) (by simp)
    (by intro p q h; have := h.2; simp only [Bool.and_eq_false_iff, beq_eq_false_iff_ne, ne_eq]; omega) _ (poss_pairwise l) p hp

/-- The boundaries. -/
def bnds (l : List UInt8) : List Nat := (poss l).map (·.1)
theorem bnds_get (l : List UInt8) (i : Nat) (h : i < (bnds l).length) : ∃ p ∈ poss l, (bnds l)[i] = p.1 ∧ (poss l)[i]? = some p := by
  unfold bnds at h ⊢
  rw [List.length_map] at h
  exact ⟨(poss l)[i], List.getElem_mem h, by simp, by simp [h]⟩
end U8
end Go.Proofs.Ytgefbagojghmeaa
