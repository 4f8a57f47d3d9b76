/-
  The two passes over items, without the program.
-/
import Derived.Test.YtgefbagojghmeaaBi3
namespace Go.Proofs.Ytgefbagojghmeaa
open Go.RowKit

/-- From an index on, the lists are those that the last strong class gives. -/
def St (e : Int) (cs D P F : List Int) (i : Nat) (last : Int) : Prop :=
  D.drop i = dirs last (cs.drop i) ∧ P.drop i = p1 e last (cs.drop i) ∧ F.drop i = lvls e last (cs.drop i) ∧ (last = 1 ∨ last = 2)
theorem own_or (e : Int) : own e = 1 ∨ own e = 2 := by unfold own; omega
theorem St.start (e : Int) (cs : List Int) : St e cs (dirs (own e) cs) (p1 e (own e) cs) (lvls e (own e) cs) 0 (own e) := ⟨rfl, rfl, rfl, own_or e⟩
section
variable {e : Int} {cs D P F : List Int} {i : Nat} {last : Int}
theorem drop_cons_inj {l : List Int} {i : Nat} {x : Int} {r : List Int} (h : l.drop i = x :: r) : l.getD i 0 = x ∧ l.drop (i + 1) = r := by
  have hi : i < l.length := by
    by_cases hi : i < l.length
    · exact hi
    · rw [List.drop_eq_nil_of_le (by omega)] at h; cases h
  rw [drop_one hi] at h
  cases h
  exact ⟨rfl, rfl⟩
theorem St.strong (h : St e cs D P F i last) (hi : i < cs.length) (hc : cs.getD i 0 = 1 ∨ cs.getD i 0 = 2) :
    D.getD i 0 = cs.getD i 0 ∧ P.getD i 0 = strong e (cs.getD i 0) ∧ F.getD i 0 = strong e (cs.getD i 0) ∧ St e cs D P F (i + 1) (cs.getD i 0) := by
  obtain ⟨h1, h2, h3, _⟩ := h
  rw [drop_one hi] at h1 h2 h3
  rw [dirs, if_pos hc] at h1
  rw [p1, if_pos hc, lv1, if_pos hc] at h2
  rw [lvls, if_pos hc, lv1, if_pos hc] at h3
  obtain ⟨a1, b1⟩ := drop_cons_inj h1
  obtain ⟨a2, b2⟩ := drop_cons_inj h2
  obtain ⟨a3, b3⟩ := drop_cons_inj h3
  exact ⟨a1, a2, a3, b1, b2, b3, hc⟩
theorem St.num (h : St e cs D P F i last) (hi : i < cs.length) (hc : cs.getD i 0 = 3) :
    D.getD i 0 = last ∧ P.getD i 0 = (if last = 2 then e + 2 - e % 2 else Go.Proofs.Ytgefbagojghmeaa.strong e last) ∧ F.getD i 0 = P.getD i 0 ∧ St e cs D P F (i + 1) last := by
  obtain ⟨h1, h2, h3, h4⟩ := h
  rw [drop_one hi] at h1 h2 h3
  have hn : ¬ (cs.getD i 0 = 1 ∨ cs.getD i 0 = 2) := by omega
  rw [dirs, if_neg hn, if_pos hc] at h1
  rw [p1, if_neg hn, if_pos hc, lv1, if_neg hn] at h2
  rw [lvls, if_neg hn, if_pos hc, lv1, if_neg hn] at h3
  obtain ⟨a1, b1⟩ := drop_cons_inj h1
  obtain ⟨a2, b2⟩ := drop_cons_inj h2
  obtain ⟨a3, b3⟩ := drop_cons_inj h3
  exact ⟨a1, a2, a3.trans a2.symm, b1, b2, b3, h4⟩
theorem St.neut (h : St e cs D P F i last) (hi : i < cs.length) (hc : cs.getD i 0 = 0) :
    D.getD i 0 = 0 ∧ P.getD i 0 = 0 ∧ F.getD i 0 = (if last = nxt e last (cs.drop (i + 1)) then Go.Proofs.Ytgefbagojghmeaa.strong e last else e) ∧ St e cs D P F (i + 1) last := by
  obtain ⟨h1, h2, h3, h4⟩ := h
  rw [drop_one hi] at h1 h2 h3
  have hn : ¬ (cs.getD i 0 = 1 ∨ cs.getD i 0 = 2) := by omega
  have hn3 : ¬ cs.getD i 0 = 3 := by omega
  rw [dirs, if_neg hn, if_neg hn3] at h1
  rw [p1, if_neg hn, if_neg hn3] at h2
  rw [lvls, if_neg hn, if_neg hn3] at h3
  obtain ⟨a1, b1⟩ := drop_cons_inj h1
  obtain ⟨a2, b2⟩ := drop_cons_inj h2
  obtain ⟨a3, b3⟩ := drop_cons_inj h3
  exact ⟨a1, a2, a3, b1, b2, b3, h4⟩
theorem St.zero (h : St e cs D P F i last) (hi : i < cs.length) (h0 : 0 ≤ cs.getD i 0) (h3 : cs.getD i 0 ≤ 3) : D.getD i 0 = 0 ↔ cs.getD i 0 = 0 := by
  have h4 := h.2.2.2
  by_cases hc : cs.getD i 0 = 1 ∨ cs.getD i 0 = 2
  · have := (h.strong hi hc).1
    omega
  · by_cases hc3 : cs.getD i 0 = 3
    · have := (h.num hi hc3).1
      omega
    · have h00 : cs.getD i 0 = 0 := by omega
      have := (h.neut hi h00).1
      omega
theorem getD_range {cs : List Int} (h : ∀ c ∈ cs, 0 ≤ c ∧ c ≤ 3) {i : Nat} (hi : i < cs.length) : 0 ≤ cs.getD i 0 ∧ cs.getD i 0 ≤ 3 := by
  have : cs.getD i 0 = cs[i] := by simp [List.getD, hi]
  rw [this]
  exact h _ (List.getElem_mem hi)
/-- A run of neutral items. -/
theorem St.go (h : St e cs D P F i last) (hcs : ∀ c ∈ cs, 0 ≤ c ∧ c ≤ 3) {m : Nat} (hm : m ≤ cs.length) : ∀ q, i ≤ q → q ≤ m → (∀ j, i ≤ j → j < m → D.getD j 0 = 0) → St e cs D P F q last
  | 0, h1, _, _ => by
    have : i = 0 := by omega
    subst this
    exact h
  | q + 1, h1, h2, hz => by
    by_cases hq : i = q + 1
    · rw [← hq]; exact h
    · have hp := St.go h hcs hm q (by omega) (by omega) hz
      have hr := getD_range hcs (i := q) (by omega)
      have hc := (hp.zero (by omega) hr.1 hr.2).1 (hz q (by omega) (by omega))
      exact (hp.neut (by omega) hc).2.2.2
theorem St.nxt_at (h : St e cs D P F i last) (hcs : ∀ c ∈ cs, 0 ≤ c ∧ c ≤ 3) {m : Nat} (hm : m ≤ cs.length) (hz : ∀ j, i ≤ j → j < m → D.getD j 0 = 0) (he : m = cs.length ∨ D.getD m 0 ≠ 0) :
    ∀ d q, i ≤ q → q + d = m → nxt e last (cs.drop q) = if m < cs.length then D.getD m 0 else own e
  | 0, q, h1, h2 => by
    have : q = m := by omega
    subst this
    have hp := St.go h hcs hm q h1 (Nat.le_refl _) hz
    by_cases hq : q < cs.length
    · rw [if_pos hq, drop_one hq, nxt]
      have hr := getD_range hcs hq
      have hd : D.getD q 0 ≠ 0 := by rcases he with h | h; omega; exact h
      by_cases hc : cs.getD q 0 = 1 ∨ cs.getD q 0 = 2
      · rw [if_pos hc]
        exact (hp.strong hq hc).1.symm
      · rw [if_neg hc]
        by_cases hc3 : cs.getD q 0 = 3
        · rw [if_pos hc3]
          exact (hp.num hq hc3).1.symm
        · exact absurd (hp.neut hq (by omega)).1 hd
    · rw [if_neg hq, List.drop_eq_nil_of_le (by omega), nxt]
  | d + 1, q, h1, h2 => by
    have hp := St.go h hcs hm q h1 (by omega) hz
    have hq : q < cs.length := by omega
    have hr := getD_range hcs hq
    have hc := (hp.zero hq hr.1 hr.2).1 (hz q h1 (by omega))
    rw [drop_one hq, nxt, if_neg (by omega), if_neg (by omega)]
    exact St.nxt_at h hcs hm hz he d (q + 1) (by omega) (by omega)
theorem St.run (h : St e cs D P F i last) (hcs : ∀ c ∈ cs, 0 ≤ c ∧ c ≤ 3) {m : Nat} (hm : m ≤ cs.length) (hz : ∀ j, i ≤ j → j < m → D.getD j 0 = 0) (he : m = cs.length ∨ D.getD m 0 ≠ 0) {q : Nat} (h1 : i ≤ q) (h2 : q < m) :
    F.getD q 0 = if last = (if m < cs.length then D.getD m 0 else own e) then Go.Proofs.Ytgefbagojghmeaa.strong e last else e := by
  have hp := St.go h hcs hm q h1 (by omega) hz
  have hq : q < cs.length := by omega
  have hr := getD_range hcs hq
  have hc := (hp.zero hq hr.1 hr.2).1 (hz q h1 (by omega))
  rw [(hp.neut hq hc).2.2.1, St.nxt_at h hcs hm hz he (m - (q + 1)) (q + 1) (by omega) (by omega)]
end
/-- The first pass, half way. -/
def half (P : List Int) (k : Nat) : List Int := P.take k ++ List.replicate (P.length - k) 0
theorem half_set {P : List Int} {k : Nat} (hk : k < P.length) : (half P k).set k (P.getD k 0) = half P (k + 1) := by
  unfold half
  rw [show P.length - k = (P.length - (k + 1)) + 1 by omega, List.replicate_succ, List.set_append_right _ _ (by rw [List.length_take]; omega), List.length_take, Nat.min_eq_left (by omega), Nat.sub_self, List.set_cons_zero, take_more hk, List.append_assoc]
  rfl
theorem half_zero {P : List Int} {k : Nat} (hk : k < P.length) (h : P.getD k 0 = 0) : half P k = half P (k + 1) := by
  unfold half
  rw [show P.length - k = (P.length - (k + 1)) + 1 by omega, List.replicate_succ, take_more hk, List.append_assoc, h]
  rfl
/-- The second pass, half way. -/
def mixed (F P : List Int) (k : Nat) : List Int := F.take k ++ P.drop k
theorem mixed_set {F P : List Int} {k : Nat} (hF : k < F.length) (hP : k < P.length) : (mixed F P k).set k (F.getD k 0) = mixed F P (k + 1) := by
  unfold mixed
  rw [drop_one hP, List.set_append_right _ _ (by rw [List.length_take]; omega), List.length_take, Nat.min_eq_left (by omega), Nat.sub_self, List.set_cons_zero, take_more hF, List.append_assoc]
  rfl
theorem mixed_same {F P : List Int} {k : Nat} (hF : k < F.length) (hP : k < P.length) (h : F.getD k 0 = P.getD k 0) : mixed F P k = mixed F P (k + 1) := by
  unfold mixed
  rw [drop_one hP, take_more hF, List.append_assoc, h]
  rfl
end Go.Proofs.Ytgefbagojghmeaa
