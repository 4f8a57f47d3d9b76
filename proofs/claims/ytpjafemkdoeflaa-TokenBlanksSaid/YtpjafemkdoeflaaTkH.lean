/-
  The law TokenBlanks, without the program: the gaps that the law lays, one token after the other.
-/
import Derived.Test.YtpjafemkdoeflaaTkG
namespace Go.Proofs.Ytpjafemkdoeflaa

/-- The gap that the bytes ask for. -/
def gap0 (gs : List Nat) (i : Nat) : Nat := if gs.length = 0 then 1 else gs.getD (i % gs.length) 0 % 4
def wordAt (O : List Tok) (i : Nat) : Prop := ∃ x, O[i]? = some x ∧ x.1 = 9
open Classical in
/-- The gap that the law lays. -/
noncomputable def gapG (gs : List Nat) (O : List Tok) (i : Nat) : Nat := if wordAt O i ∧ 0 < i ∧ wordAt O (i - 1) then max (gap0 gs i) 1 else gap0 gs i
theorem gap0_le (gs : List Nat) (i : Nat) : gap0 gs i ≤ 3 := by
  unfold gap0
  split
  · decide
  · omega
theorem gapG_word {gs : List Nat} {O : List Tok} {j : Nat} {x y : Tok} (hx : O[j + 1]? = some x) (hy : O[j]? = some y) (h1 : x.1 = 9) (h2 : y.1 = 9) : gapG gs O (j + 1) = max (gap0 gs (j + 1)) 1 := by
  unfold gapG
  rw [if_pos]
  exact ⟨⟨x, hx, h1⟩, by omega, y, hy, h2⟩
theorem gapG_not {gs : List Nat} {O : List Tok} {i : Nat} {x : Tok} (hx : O[i]? = some x) (h : x.1 ≠ 9 ∨ ∀ y, O[i - 1]? = some y → y.1 ≠ 9) : gapG gs O i = gap0 gs i := by
  unfold gapG
  rw [if_neg]
  rintro ⟨⟨x', h1, h2⟩, _, y, h3, h4⟩
  rcases h with h | h
  · rw [hx] at h1
    cases h1
    exact h h2
  · exact h y h3 h4
theorem chs_drop {s : By} {O : List Tok} {i : Nat} {x : Tok} (hx : O[i]? = some x) : chs s (O.drop i) = (x.1, (s.drop x.2.2.1).take (x.2.2.2 - x.2.2.1)) :: chs s (O.drop (i + 1)) := by
  obtain ⟨hi, he⟩ := List.getElem?_eq_some_iff.1 hx
  rw [List.drop_eq_getElem_cons hi, he]
  rfl
theorem gapG_ok (s : By) (gs : List Nat) (O : List Tok) : ∀ (m i p : Nat), O.length ≤ i + m → (p = 9 → 0 < i ∧ wordAt O (i - 1)) → gok (gapG gs O) p (chs s (O.drop i)) i
  | 0, i, p, hm, _ => by
    rw [List.drop_eq_nil_of_le (by omega)]
    trivial
  | m + 1, i, p, hm, hp => by
    by_cases hi : i < O.length
    · have hx : O[i]? = some O[i] := List.getElem?_eq_getElem hi
      rw [chs_drop hx]
      refine ⟨fun h1 h2 => ?_, gapG_ok s gs O m (i + 1) _ (by omega) (fun h => ⟨by omega, O[i], hx, h⟩)⟩
      obtain ⟨h3, h4⟩ := hp h2
      unfold gapG
      rw [if_pos ⟨⟨_, hx, h1⟩, h3, h4⟩]
      exact Nat.le_max_right _ _
    · rw [List.drop_eq_nil_of_le (by omega)]
      trivial
theorem reb_step {s : By} {G : Nat → Nat} {O : List Tok} {i d : Nat} {x : Tok} (hx : O[i]? = some x) : reb G (chs s (O.drop i)) i d = (if d % 2 = 1 then bl (G i) else []) ++ ((s.drop x.2.2.1).take (x.2.2.2 - x.2.2.1) ++ reb G (chs s (O.drop (i + 1))) (i + 1) (newD x.1 d)) := by
  rw [chs_drop hx]
  rfl
theorem reb_len (G : Nat → Nat) (M : Nat) : ∀ (cs : List (Nat × By)) (i d : Nat), (∀ x ∈ cs, x.2.length ≤ M) → (reb G cs i d).length ≤ cs.length * (3 + M)
  | [], i, d, _ => Nat.zero_le _
  | x :: r, i, d, h => by
    rw [reb, List.length_append, List.length_append, List.length_cons, Nat.add_mul]
    have h1 := reb_len G M r (i + 1) (newD x.1 d) (fun y hy => h y (List.mem_cons_of_mem _ hy))
    have h2 := h x (List.mem_cons_self ..)
    have h3 := bl_len (G i)
    have h4 : (if d % 2 = 1 then bl (G i) else []).length ≤ 3 := by
      split
      · exact h3
      · exact Nat.zero_le _
    omega
theorem chs_len {s : By} {ts : List Tok} : ∀ x ∈ chs s ts, x.2.length ≤ s.length := by
  intro x hx
  unfold chs at hx
  obtain ⟨y, _, rfl⟩ := List.mem_map.1 hx
  dsimp only
  rw [List.length_take, List.length_drop]
  omega
/-- The tokens of the text with the gaps. -/
theorem blanks_toks {s : By} {gs : List Nat} {O : List Tok} (h : toks s = (O, none)) : ∃ us, toks (reb (gapG gs O) (chs s O) 0 0) = (us, none) ∧ us.map keyT = O.map keyT :=
  toks_reb s (gapG gs O) (s.length + 1) 0 0 0 0 O _ 0 h (gapG_ok s gs O O.length 0 0 (by omega) (fun h => by cases h)) (by omega)
theorem blanks_len {s : By} {gs : List Nat} {O : List Tok} (hs : s.length ≤ 1000) (hO : O.length ≤ 4000) : (reb (gapG gs O) (chs s O) 0 0).length ≤ 4012000 := by
  have h := reb_len (gapG gs O) 1000 (chs s O) 0 0 (fun x hx => Nat.le_trans (chs_len x hx) hs)
  have hl : (chs s O).length = O.length := by unfold chs; rw [List.length_map]
  rw [hl] at h
  have : O.length * (3 + 1000) ≤ 4000 * 1003 := Nat.mul_le_mul hO (Nat.le_refl _)
  omega
end Go.Proofs.Ytpjafemkdoeflaa
