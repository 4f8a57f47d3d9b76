/-
  Plain laws on elements (no program in sight): a cut at a boundary, a string behind a valid one, the first n elements.
-/
import Derived.Test.YtgefbagojghmeaaU8b
namespace Go.Proofs.Ytgefbagojghmeaa
namespace U8
open Go.Lib

theorem decodeN_w (n b0 b1 b2 b3 : Nat) : (decodeN n b0 b1 b2 b3).2 = 1 ∨ (decodeN n b0 b1 b2 b3).2 = 2 ∨ (decodeN n b0 b1 b2 b3).2 = 3 ∨ (decodeN n b0 b1 b2 b3).2 = 4 := by
  unfold decodeN
  repeat' split
  all_goals simp

set_option maxHeartbeats 1000000 in
/-- Fewer bytes, but not fewer than the element has: the same element. -/
theorem decodeN_cut (n k b0 b1 b2 b3 c1 c2 c3 : Nat) (hk : k ≤ n) (hw : (decodeN n b0 b1 b2 b3).2 ≤ k) (h1 : 1 < k → c1 = b1) (h2 : 2 < k → c2 = b2) (h3 : 3 < k → c3 = b3) :
    decodeN k b0 c1 c2 c3 = decodeN n b0 b1 b2 b3 := by
  by_cases k3 : 3 < k
  · rw [h1 (by omega), h2 (by omega), h3 k3]
    have e1 : (1 < k) = (1 < n) := by simp; omega
    have e2 : (2 < k) = (2 < n) := by simp; omega
    have e3 : (3 < k) = (3 < n) := by simp; omega
    simp only [decodeN, e1, e2, e3]
  · by_cases k2 : 2 < k
    · rw [h1 (by omega), h2 (by omega)]
      have e1 : (1 < k) = (1 < n) := by simp; omega
      have e2 : (2 < k) = (2 < n) := by simp; omega
      have e3 : (3 < k) = False := by simp; omega
      revert hw
      simp only [decodeN, e1, e2, e3, false_and, and_false, if_false]
      repeat' split
      all_goals first | (intro _; rfl) | (intro h; simp at h; omega) | (exfalso; omega) | (intro h; exfalso; simp_all)
    · by_cases k1 : 1 < k
      · rw [h1 (by omega)]
        have e1 : (1 < k) = (1 < n) := by simp; omega
        have e2 : (2 < k) = False := by simp; omega
        have e3 : (3 < k) = False := by simp; omega
        revert hw
        simp only [decodeN, e1, e2, e3, false_and, and_false, if_false]
        repeat' split
        all_goals first | (intro _; rfl) | (intro h; simp at h; omega) | (exfalso; omega) | (intro h; exfalso; simp_all)
      · have e1 : (1 < k) = False := by simp; omega
        have e2 : (2 < k) = False := by simp; omega
        have e3 : (3 < k) = False := by simp; omega
        revert hw
        simp only [decodeN, e1, e2, e3, false_and, and_false, if_false]
        repeat' split
        all_goals first | (intro _; rfl) | (intro h; simp at h; omega) | (exfalso; omega) | (intro h; exfalso; simp_all)

theorem getD_take (l : List UInt8) (k i : Nat) (h : i < k) : (l.take k).getD i 0 = l.getD i 0 := by
  simp [List.getD, h]

theorem decodeL_take (l : List UInt8) (k : Nat) (hk : (decodeL l).2 ≤ k) : decodeL (l.take k) = decodeL l := by
  by_cases hl : l.length ≤ k
  · rw [List.take_of_length_le hl]
  · have h1 := decodeL_width l
    rw [decodeL_N l] at hk ⊢
    rw [decodeL_N (l.take k), List.length_take, Nat.min_eq_left (by omega), getD_take l k 0 (by rw [decodeL_N] at h1; omega)]
    exact decodeN_cut _ _ _ _ _ _ _ _ _ (by omega) hk (fun h => by rw [getD_take l k 1 h]) (fun h => by rw [getD_take l k 2 h]) (fun h => by rw [getD_take l k 3 h])

set_option maxHeartbeats 1000000 in
/-- An element that is no replacement of one byte does not hang on what is behind it. -/
theorem decodeN_more (n m b0 b1 b2 b3 c1 c2 c3 : Nat) (hm : n ≤ m) (h0 : 1 ≤ n) (hv : ¬ ((decodeN n b0 b1 b2 b3).1 = 65533 ∧ (decodeN n b0 b1 b2 b3).2 = 1)) (h1 : 1 < n → c1 = b1) (h2 : 2 < n → c2 = b2) (h3 : 3 < n → c3 = b3) :
    decodeN m b0 c1 c2 c3 = decodeN n b0 b1 b2 b3 := by
  by_cases hb : b0 < 128
  · unfold decodeN; rw [if_pos hb, if_pos hb]
  · have hw := decodeN_w n b0 b1 b2 b3
    have hfit : (decodeN n b0 b1 b2 b3).2 ≤ n := by
      unfold decodeN
      repeat' split
      all_goals (simp; try omega)
    have := decodeN_cut m n b0 c1 c2 c3 b1 b2 b3 hm ?_ (fun h => (h1 h).symm) (fun h => (h2 h).symm) (fun h => (h3 h).symm)
    · exact this.symm
    · revert hv
      by_cases k3 : 3 < n
      · rw [h1 (by omega), h2 (by omega), h3 k3]
        have e1 : (1 < m) = (1 < n) := by simp; omega
        have e2 : (2 < m) = (2 < n) := by simp; omega
        have e3 : (3 < m) = (3 < n) := by simp; omega
        intro _
        have : decodeN m b0 b1 b2 b3 = decodeN n b0 b1 b2 b3 := by simp only [decodeN, e1, e2, e3]
        rw [this]; exact hfit
      · by_cases k2 : 2 < n
        · rw [h1 (by omega), h2 (by omega)]
          have e1 : (1 < m) = True := by simp; omega
          have e2 : (2 < m) = True := by simp; omega
          have f1 : (1 < n) = True := by simp; omega
          have f2 : (2 < n) = True := by simp; omega
          have f3 : (3 < n) = False := by simp; omega
          simp only [decodeN, e1, e2, f1, f2, f3, false_and, and_false, true_and, if_false]
          repeat' split
          all_goals first | (intro h; exfalso; simp at h; done) | (intro _; simp; omega) | (intro h; exfalso; simp_all; done) | (intro h; exfalso; omega)
        · by_cases k1 : 1 < n
          · rw [h1 (by omega)]
            have e1 : (1 < m) = True := by simp; omega
            have f1 : (1 < n) = True := by simp; omega
            have f2 : (2 < n) = False := by simp; omega
            have f3 : (3 < n) = False := by simp; omega
            simp only [decodeN, e1, f1, f2, f3, false_and, and_false, true_and, if_false]
            repeat' split
            all_goals first | (intro h; exfalso; simp at h; done) | (intro _; simp; omega) | (intro h; exfalso; simp_all; done) | (intro h; exfalso; omega)
          · have f1 : (1 < n) = False := by simp; omega
            have f2 : (2 < n) = False := by simp; omega
            have f3 : (3 < n) = False := by simp; omega
            simp only [decodeN, f1, f2, f3, false_and, and_false, if_false]
            repeat' split
            all_goals first | (intro h; exfalso; simp at h; done) | (intro _; simp; omega) | (intro h; exfalso; simp_all; done) | (intro h; exfalso; omega)

theorem getD_append (l t : List UInt8) (i : Nat) (h : i < l.length) : (l ++ t).getD i 0 = l.getD i 0 := by
  simp [List.getD, List.getElem?_append_left h]

theorem decodeL_append (l t : List UInt8) (hne : l ≠ []) (hv : ¬ ((decodeL l).1 = 65533 ∧ (decodeL l).2 = 1)) : decodeL (l ++ t) = decodeL l := by
  have hl : 0 < l.length := List.length_pos_iff.2 hne
  rw [decodeL_N l] at hv ⊢
  rw [decodeL_N (l ++ t), getD_append l t 0 hl, List.length_append]
  exact decodeN_more _ _ _ _ _ _ _ _ _ (by omega) hl hv (fun h => by rw [getD_append l t 1 h]) (fun h => by rw [getD_append l t 2 h]) (fun h => by rw [getD_append l t 3 h])

/-- The elements of a valid string and any other, one after the other. -/
theorem els_append : ∀ (n : Nat) (l t : List UInt8), l.length ≤ n → validD l = true → els (l ++ t) = els l ++ els t ∧ validD (l ++ t) = validD t
  | 0, l, t, h, _ => by
    have : l = [] := List.eq_nil_of_length_eq_zero (by omega)
    subst this
    simp [els_nil]
  | n + 1, l, t, h, hv => by
    by_cases hne : l = []
    · subst hne; simp [els_nil]
    · have hw := decodeL_width l
      have hwl := decodeL_le l hne
      have hl : 0 < l.length := List.length_pos_iff.2 hne
      rw [validD_step l hne] at hv
      by_cases hb : (decodeL l).1 = 65533 ∧ (decodeL l).2 = 1
      · rw [if_pos hb] at hv; cases hv
      · rw [if_neg hb] at hv
        have ih := els_append n (l.drop (decodeL l).2) t (by rw [List.length_drop]; omega) hv
        have hne' : l ++ t ≠ [] := by simp [hne]
        rw [els_step (l ++ t) hne', validD_step (l ++ t) hne', decodeL_append l t hne hb, if_neg hb, List.drop_append_of_le_length hwl, ih.1, ih.2, els_step l hne]
        exact ⟨by simp, rfl⟩

/-- The number of bytes of the first n elements. -/
def adv : Nat → List UInt8 → Nat
  | 0, _ => 0
  | n + 1, l => if l = [] then 0 else (decodeL l).2 + adv n (l.drop (decodeL l).2)
theorem adv_le : ∀ (n : Nat) (l : List UInt8), adv n l ≤ l.length
  | 0, l => Nat.zero_le _
  | n + 1, l => by
    unfold adv
    by_cases hne : l = []
    · simp [hne]
    · have hwl := decodeL_le l hne
      have := adv_le n (l.drop (decodeL l).2)
      rw [List.length_drop] at this
      rw [if_neg hne]; omega
theorem els_adv : ∀ (n : Nat) (l : List UInt8), els (l.take (adv n l)) = (els l).take n
  | 0, l => by simp [adv, els_nil]
  | n + 1, l => by
    unfold adv
    by_cases hne : l = []
    · simp [hne, els_nil]
    · have hw := decodeL_width l
      have hwl := decodeL_le l hne
      have ih := els_adv n (l.drop (decodeL l).2)
      have hl : 0 < l.length := List.length_pos_iff.2 hne
      rw [if_neg hne, els_step l hne, List.take_succ_cons, ← ih]
      have hne' : l.take ((decodeL l).2 + adv n (l.drop (decodeL l).2)) ≠ [] := by
        intro e
        have := congrArg List.length e
        simp only [List.length_take, List.length_nil] at this
        omega
      rw [els_step _ hne', decodeL_take l _ (by omega), List.drop_take]
      congr 3
      omega
theorem els_first_length (n : Nat) (l : List UInt8) : (els (l.take (adv n l))).length = min n (els l).length := by
  rw [els_adv, List.length_take]

theorem size_len (s : ByteArray) : s.data.toList.length = s.size := by rw [Array.length_toList]; rfl
theorem drop_ne {l : List UInt8} {pos : Nat} (hp : pos < l.length) : l.drop pos ≠ [] := by
  intro e
  have := congrArg List.length e
  rw [List.length_drop, List.length_nil] at this
  omega
theorem runeCountFrom_els (s : ByteArray) : ∀ (fuel pos : Nat), s.size - pos ≤ fuel → runeCountFrom s fuel pos = (els (s.data.toList.drop pos)).length
  | 0, pos, h => by
    rw [List.drop_of_length_le (by rw [size_len]; omega)]
    rfl
  | f + 1, pos, h => by
    unfold runeCountFrom
    by_cases hp : pos < s.size
    · have hne : s.data.toList.drop pos ≠ [] := drop_ne (by rw [size_len]; exact hp)
      have hw := decode_width_pos s pos hp
      rw [if_pos hp, runeCountFrom_els s f _ (by omega), els_step _ hne, decodeL_drop, List.drop_drop]
      simp; omega
    · rw [if_neg hp, List.drop_of_length_le (by rw [size_len]; omega)]
      rfl
theorem runeCount_els (s : ByteArray) : runeCount s = (els s.data.toList).length := by
  unfold runeCount
  rw [runeCountFrom_els s s.size 0 (by omega), List.drop_zero]
end U8
end Go.Proofs.Ytgefbagojghmeaa
