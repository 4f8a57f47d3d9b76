/-
  The depth of a list of elements: by a stack (bidi.read) and by matching (the reference), without the program.
-/
import Derived.Test.YtgefbagojghmeaaBd1
namespace Go.Proofs.Ytgefbagojghmeaa
open Go.RowKit

/-- Where the height falls to 0, counted from a height. -/
def mt : Nat → List Int → Option Nat
  | _, [] => none
  | h, c :: l => if initB c then (mt (h + 1) l).map (· + 1) else if termB c then (if h ≤ 1 then some 0 else (mt (h - 1) l).map (· + 1)) else (mt h l).map (· + 1)
/-- The greatest height. -/
def mh : Nat → List Int → Nat
  | h, [] => h
  | h, c :: l => if initB c then mh (h + 1) l else if termB c then max h (mh (h - 1) l) else mh h l
theorem mh_cons (h : Nat) (c : Int) (l : List Int) : mh h (c :: l) = if initB c then mh (h + 1) l else if termB c then max h (mh (h - 1) l) else mh h l := rfl
theorem mh_ge : ∀ (l : List Int) (h : Nat), h ≤ mh h l
  | [], h => Nat.le_refl _
  | c :: l, h => by
    unfold mh
    split
    · have := mh_ge l (h + 1); omega
    · split
      · exact Nat.le_max_left _ _
      · exact mh_ge l h
theorem rd_mh (n : Nat) : ∀ (ys : List Int) (x : List Int × List Nat × Nat), x.2.1.length ≤ x.2.2 → (ys.foldl (rdStep n) x).2.2 = max x.2.2 (mh x.2.1.length ys)
  | [], x, h => by simp [mh]; omega
  | c :: ys, x, h => by
    have h2 : (rdStep n x c).2.1.length ≤ (rdStep n x c).2.2 := by
      unfold rdStep
      split
      · simp; omega
      · split
        · split
          · exact h
          · simp; omega
        · exact h
    rw [List.foldl_cons, rd_mh n ys _ h2]
    clear h2
    rw [mh_cons]
    unfold rdStep
    split
    · have := mh_ge ys (x.2.1.length + 1)
      simp
      omega
    · split
      · split
        · rename_i h0
          simp [h0]
        · simp
          omega
      · rfl
theorem rdRun_mh (n : Nat) (xs : List Int) : (rdRun n xs).2.2 = mh 0 xs := by
  unfold rdRun
  rw [rd_mh n xs _ (Nat.le_refl _)]
  simp

theorem mt_none : ∀ (l : List Int) (k a : Nat), mt (k + 1) l = none → mh (k + a) l = mh k l + a
  | [], k, a, _ => rfl
  | c :: l, k, a, h => by
    unfold mt at h
    unfold mh
    split at h
    · rename_i hc
      rw [if_pos hc, if_pos hc]
      have := mt_none l (k + 1) a (by simpa using h)
      rw [← this]
      congr 1
      omega
    · rename_i hc
      rw [if_neg hc, if_neg hc]
      split at h
      · rename_i ht
        rw [if_pos ht, if_pos ht]
        split at h
        · cases h
        · obtain ⟨q, rfl⟩ : ∃ q, k = q + 1 := ⟨k - 1, by omega⟩
          have := mt_none l q a (by simpa using h)
          rw [show q + 1 + a - 1 = q + a by omega, this, show q + 1 - 1 = q by omega]
          omega
      · rename_i ht
        rw [if_neg ht, if_neg ht]
        exact mt_none l k a (by simpa using h)
theorem mt_some : ∀ (l : List Int) (k a j : Nat), mt (k + 1) l = some j → j < l.length ∧ mt (k + 1) (l.take j) = none ∧ mh (k + 1 + a) l = max (mh (k + 1 + a) (l.take j)) (mh a (l.drop (j + 1)))
  | [], k, a, j, h => by simp [mt] at h
  | c :: l, k, a, j, h => by
    unfold mt at h
    split at h
    · rename_i hc
      obtain ⟨i, hi, rfl⟩ := Option.map_eq_some_iff.1 h
      obtain ⟨h1, h2, h3⟩ := mt_some l (k + 1) a i hi
      refine ⟨by simp; omega, ?_, ?_⟩
      · rw [List.take_succ_cons]
        unfold mt
        rw [if_pos hc, h2]
        rfl
      · rw [List.take_succ_cons, List.drop_succ_cons]
        unfold mh
        rw [if_pos hc, if_pos hc, show k + 1 + a + 1 = k + 1 + 1 + a by omega, h3]
        cases l.drop (i + 1) <;> simp [mh]
    · rename_i hc
      split at h
      · rename_i ht
        split at h
        · rename_i hk
          cases h
          refine ⟨by simp, by simp [mt], ?_⟩
          rw [List.take_zero, List.drop_succ_cons, List.drop_zero]
          show mh (k + 1 + a) (c :: l) = _
          rw [mh_cons, if_neg hc, if_pos ht]
          have : k = 0 := by omega
          subst this
          rw [show 0 + 1 + a - 1 = a by omega]
          simp [mh]
        · obtain ⟨q, rfl⟩ : ∃ q, k = q + 1 := ⟨k - 1, by omega⟩
          obtain ⟨i, hi, rfl⟩ := Option.map_eq_some_iff.1 h
          obtain ⟨h1, h2, h3⟩ := mt_some l q a i (by simpa using hi)
          refine ⟨by simp; omega, ?_, ?_⟩
          · rw [List.take_succ_cons]
            unfold mt
            rw [if_neg hc, if_pos ht, if_neg (by omega)]
            have : mt (q + 1 + 1 - 1) (l.take i) = none := h2
            rw [this]
            rfl
          · rw [List.take_succ_cons, List.drop_succ_cons, mh, if_neg hc, if_pos ht, mh, if_neg hc, if_pos ht, show q + 1 + 1 + a - 1 = q + 1 + a by omega, h3]
            omega
      · rename_i ht
        obtain ⟨i, hi, rfl⟩ := Option.map_eq_some_iff.1 h
        obtain ⟨h1, h2, h3⟩ := mt_some l k a i hi
        refine ⟨by simp; omega, ?_, ?_⟩
        · rw [List.take_succ_cons]
          unfold mt
          rw [if_neg hc, if_neg ht, h2]
          rfl
        · rw [List.take_succ_cons, List.drop_succ_cons, mh, if_neg hc, if_neg ht, mh, if_neg hc, if_neg ht]
          exact h3
/-- The depth by matching: of a segment. -/
def dep : Nat → List Int → Nat
  | 0, _ => 0
  | _ + 1, [] => 0
  | f + 1, c :: l => if initB c then (match mt 1 l with
    | some j => max (1 + dep f (l.take j)) (dep f (l.drop (j + 1)))
    | none => 1 + dep f l) else dep f l
theorem dep_mh : ∀ (f : Nat) (l : List Int), l.length ≤ f → dep f l = mh 0 l
  | 0, l, h => by
    have : l = [] := List.eq_nil_of_length_eq_zero (by omega)
    subst this
    rfl
  | f + 1, [], _ => rfl
  | f + 1, c :: l, h => by
    have hl : l.length ≤ f := by simpa using h
    rw [dep, mh]
    split
    · split
      · rename_i j hj
        obtain ⟨h1, h2, h3⟩ := mt_some l 0 0 j hj
        have h4 := mt_none (l.take j) 0 1 h2
        rw [dep_mh f _ (by rw [List.length_take]; omega), dep_mh f _ (by rw [List.length_drop]; omega)]
        have h3 : mh 1 l = max (mh 1 (l.take j)) (mh 0 (l.drop (j + 1))) := h3
        have h4 : mh 1 (l.take j) = mh 0 (l.take j) + 1 := h4
        show _ = mh 1 l
        rw [h3, h4, Nat.add_comm]
      · rename_i hj
        have h4 : mh 1 l = mh 0 l + 1 := mt_none l 0 1 hj
        rw [dep_mh f l hl]
        show _ = mh 1 l
        omega
    · split
      · rw [dep_mh f l hl]
        show _ = max 0 (mh 0 l)
        omega
      · exact dep_mh f l hl
theorem mt_take : ∀ (l : List Int) (k m : Nat), mt k (l.take m) = (mt k l).bind fun j => if j < m then some j else none
  | [], k, m => by simp [mt]
  | c :: l, k, 0 => by
    rw [List.take_zero]
    cases mt k (c :: l) <;> simp [mt]
  | c :: l, k, m + 1 => by
    rw [List.take_succ_cons, mt, mt]
    split
    · rw [mt_take l (k + 1) m]
      cases mt (k + 1) l with
      | none => rfl
      | some j => by_cases hj : j < m <;> simp [hj]
    · split
      · split
        · simp
        · rw [mt_take l (k - 1) m]
          cases mt (k - 1) l with
          | none => rfl
          | some j => by_cases hj : j < m <;> simp [hj]
      · rw [mt_take l k m]
        cases mt k l with
        | none => rfl
        | some j => by_cases hj : j < m <;> simp [hj]
end Go.Proofs.Ytgefbagojghmeaa
