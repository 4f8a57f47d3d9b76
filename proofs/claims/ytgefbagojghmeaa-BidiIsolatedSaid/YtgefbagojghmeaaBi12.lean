/-
  Levels segment by segment, as a list; without the program.
-/
import Derived.Test.YtgefbagojghmeaaBi8
import Derived.Test.YtgefbagojghmeaaBi1
namespace Go.Proofs.Ytgefbagojghmeaa
open Go.RowKit

/-- The classes of a segment's items. -/
def clsL : Nat → List Int → List Int
  | 0, _ => []
  | _ + 1, [] => []
  | f + 1, c :: l => bcl c :: (if initB c then (match mt 1 l with
    | some j => clsL f (l.drop (j + 1))
    | none => []) else clsL f l)
/-- The first item's level. -/
def hv (e last c : Int) (cs : List Int) : Int := if c = 1 ∨ c = 2 then strong e c else if c = 3 then lv1 e last c else if last = nxt e last cs then strong e last else e
def nl (last c : Int) : Int := if c = 1 ∨ c = 2 then c else last
theorem lvls_hv (e last c : Int) (cs : List Int) : lvls e last (c :: cs) = hv e last c cs :: lvls e (nl last c) cs := by
  rw [lvls]
  unfold hv nl
  by_cases h : c = 1 ∨ c = 2
  · rw [if_pos h, if_pos h, if_pos h, lv1, if_pos h]
  · rw [if_neg h, if_neg h, if_neg h]
    by_cases h3 : c = 3
    · rw [if_pos h3, if_pos h3]
    · rw [if_neg h3, if_neg h3]
def innerL (e c : Int) (k : Nat) (inn : List Int) : Int := if c = 8295 ∨ (c = 8296 ∧ dirI (clsL k inn) = 2) then e + 1 + e % 2 else e + 2 - e % 2
/-- The levels of a segment. -/
def levI : Nat → Int → Int → List Int → List Int
  | 0, _, _, _ => []
  | _ + 1, _, _, [] => []
  | f + 1, e, last, c :: l =>
    if initB c then (match mt 1 l with
      | some j => hv e last 0 (clsL f (l.drop (j + 1))) :: (levI f (innerL e c f (l.take j)) (own (innerL e c f (l.take j))) (l.take j) ++ hv e last 0 (clsL f (l.drop (j + 1))) :: levI f e last (l.drop (j + 1)))
      | none => hv e last 0 [] :: levI f (innerL e c f l) (own (innerL e c f l)) l)
    else hv e last (bcl c) (clsL f l) :: levI f e (nl last (bcl c)) l
theorem levI_nil (k : Nat) (e last : Int) : levI k e last [] = [] := by cases k <;> rfl
theorem clsL_nil (k : Nat) : clsL k [] = [] := by cases k <;> rfl
theorem clsL_fuel : ∀ (f g : Nat) (l : List Int), l.length ≤ f → l.length ≤ g → clsL f l = clsL g l
  | f, g, [], _, _ => by rw [clsL_nil, clsL_nil]
  | 0, _, c :: l, h, _ => by simp at h
  | f + 1, 0, c :: l, _, h => by simp at h
  | f + 1, g + 1, c :: l, h, k => by
    have h : l.length ≤ f := by simpa using h
    have k : l.length ≤ g := by simpa using k
    rw [clsL, clsL]
    congr 1
    split
    · cases hm : mt 1 l with
      | none => rfl
      | some j => exact clsL_fuel f g _ (by rw [List.length_drop]; omega) (by rw [List.length_drop]; omega)
    · exact clsL_fuel f g l h k
theorem seg_whole (xs : List Int) : seg xs 0 xs.length = xs := seg_all xs
theorem seg_length {xs : List Int} {a b : Nat} (hb : b ≤ xs.length) : (seg xs a b).length = b - a := by
  unfold seg
  rw [List.length_take, List.length_drop]
  omega
/-- Where an isolate of a shut segment ends, seen in the segment. -/
theorem mt_seg {xs : List Int} {p b : Nat} (hb : b ≤ xs.length) (hp : p < b) (hi : initB (xs.getD p 0) = true) (hs : matchV xs p < b ∨ b = xs.length) :
    (matchV xs p < b ∧ mt 1 (seg xs (p + 1) b) = some (matchV xs p - (p + 1))) ∨ (matchV xs p = xs.length ∧ b = xs.length ∧ mt 1 (seg xs (p + 1) b) = none) := by
  have hs1 : mt 1 (seg xs (p + 1) b) = (mt 1 (xs.drop (p + 1))).bind fun j => if j < b - (p + 1) then some j else none := mt_take _ _ _
  rw [hs1]
  rw [matchV_init (by omega) hi] at hs ⊢
  cases hm : mt 1 (xs.drop (p + 1)) with
  | none =>
    rw [hm] at hs
    have hs : xs.length < b ∨ b = xs.length := hs
    exact .inr ⟨rfl, by omega, rfl⟩
  | some j =>
    rw [hm] at hs
    have hs : p + 1 + j < b ∨ b = xs.length := hs
    have hjl := (mt_some _ 0 0 j hm).1
    rw [List.length_drop] at hjl
    left
    refine ⟨show p + 1 + j < b by omega, ?_⟩
    show (if j < b - (p + 1) then some j else none) = some (p + 1 + j - (p + 1))
    rw [if_pos (by omega), show p + 1 + j - (p + 1) = j by omega]
theorem cls_seg {xs : List Int} {b : Nat} (hb : b ≤ xs.length) : ∀ (m p k : Nat), b - p ≤ m → b - p ≤ k → Shut xs p b → clsOf (items xs p b) = clsL k (seg xs p b) := by
  intro m
  induction m using Nat.strongRecOn with
  | ind m ih =>
  intro p k hm hk hs
  by_cases hp : p < b
  · obtain ⟨k, rfl⟩ : ∃ k', k = k' + 1 := ⟨k - 1, by omega⟩
    rw [seg_cons hp hb, clsL]
    by_cases hi : initB (xs.getD p 0) = true
    · obtain ⟨g1, g2⟩ := match_ge (by omega) hi
      rw [items_init hp hb hi, if_pos hi, bcl_init hi]
      show 0 :: clsOf (items xs (matchV xs p + 1) b) = _
      congr 1
      rcases mt_seg hb hp hi (hs p (Nat.le_refl _) hp hi) with ⟨h1, h2⟩ | ⟨h1, h2, h3⟩
      · rw [h2]
        show _ = clsL k ((seg xs (p + 1) b).drop (matchV xs p - (p + 1) + 1))
        rw [seg_drop, show p + 1 + (matchV xs p - (p + 1) + 1) = matchV xs p + 1 by omega]
        exact ih (b - (matchV xs p + 1)) (by omega) _ k (Nat.le_refl _) (by omega) (shut_after hs (by omega))
      · rw [h3, h1, items_nil (by omega)]
        rfl
    · rw [items_leaf hp hb hi, if_neg hi]
      show bcl (xs.getD p 0) :: clsOf (items xs (p + 1) b) = _
      congr 1
      exact ih (b - (p + 1)) (by omega) _ k (Nat.le_refl _) (by omega) (shut_after hs (by omega))
  · rw [items_nil (by omega), seg_nil (by omega), clsL_nil]
    rfl
theorem inner_seg {xs : List Int} {p k : Nat} {e : Int} (hp : p < xs.length) (hi : initB (xs.getD p 0) = true) (hk : matchV xs p - (p + 1) ≤ k) : inner xs p e = innerL e (xs.getD p 0) k (seg xs (p + 1) (matchV xs p)) := by
  obtain ⟨g1, g2⟩ := match_ge hp hi
  unfold inner innerL dirV
  have := cls_seg g2 (matchV xs p - (p + 1)) (p + 1) k (Nat.le_refl _) hk (shut_inside hp hi)
  unfold clsOf at this
  rw [this]
theorem take_set_drop {L : List Int} {p : Nat} (hp : p < L.length) (v : Int) : (L.set p v).take (p + 1) = L.take p ++ [v] := by
  have h1 : p < (L.set p v).length := by rw [List.length_set]; exact hp
  rw [take_more h1]
  congr 1
  · rw [List.take_set_of_le (Nat.le_refl _)]
  · simp [List.getD, hp]
/-- What a filling leaves. -/
theorem fill_lev {xs : List Int} : ∀ (f a b : Nat) (e : Int) (L : List Int) (k : Nat), a ≤ b → b ≤ xs.length → Shut xs a b → L.length = xs.length → b - a ≤ f → b - a ≤ k →
    fillF xs f a b e L = L.take a ++ levI k e (own e) (seg xs a b) ++ L.drop b
  | 0, a, b, e, L, k, h1, h2, h3, h4, h5, h6 => by
    have : a = b := by omega
    subst this
    rw [seg_nil (Nat.le_refl _), levI_nil, List.append_nil, List.take_append_drop]
    rfl
  | f + 1, a, b, e, L, k, h1, h2, h3, h4, h5, h6 => by
    have key : ∀ (m p : Nat) (last : Int) (L : List Int) (k : Nat), b - p ≤ m → b - p ≤ k → b - p ≤ f + 1 → (p ≤ b ∨ b = xs.length) → Shut xs p b → L.length = xs.length →
        ((items xs p b).zip (lvls e last (clsOf (items xs p b)))).foldl (fillStep xs f e) L = L.take p ++ levI k e last (seg xs p b) ++ L.drop b := by
      intro m
      induction m using Nat.strongRecOn with
      | ind m ih =>
      intro p last L k hm hk hf hpb hs hL
      by_cases hp : p < b
      · obtain ⟨k, rfl⟩ : ∃ k', k = k' + 1 := ⟨k - 1, by omega⟩
        rw [seg_cons hp h2, levI]
        have hcl := fun (q : Nat) (h : p ≤ q) (hq : b - q ≤ k) => cls_seg h2 (b - q) q k (Nat.le_refl _) hq (shut_after hs h)
        by_cases hi : initB (xs.getD p 0) = true
        · obtain ⟨g1, g2⟩ := match_ge (by omega) hi
          rw [items_init hp h2 hi, if_pos hi]
          have hco : clsOf ((p, matchV xs p, 0) :: items xs (matchV xs p + 1) b) = 0 :: clsOf (items xs (matchV xs p + 1) b) := rfl
          rw [hco, lvls_hv, List.zip_cons_cons, List.foldl_cons]
          have hnl : nl last 0 = last := by unfold nl; rw [if_neg (by omega)]
          rw [hnl]
          obtain ⟨v, hv'⟩ : ∃ v, hv e last 0 (clsOf (items xs (matchV xs p + 1) b)) = v := ⟨_, rfl⟩
          rw [hv']
          have hst : fillStep xs f e L ((p, matchV xs p, 0), v) = fillF xs f (p + 1) (matchV xs p) (inner xs p e) ((L.set p v).set (matchV xs p) v) := by
            unfold fillStep
            rw [if_neg (by dsimp only; omega)]
          rw [hst]
          have hsi := shut_inside (by omega) hi
          rcases mt_seg h2 hp hi (hs p (Nat.le_refl _) hp hi) with ⟨q1, q2⟩ | ⟨q1, q2, q3⟩
          · obtain ⟨t, ht⟩ : ∃ t, matchV xs p = t := ⟨_, rfl⟩
            have hin := inner_seg (e := e) (k := k) (by omega : p < xs.length) hi (by omega)
            rw [ht] at q1 q2 hin hsi g1 g2 hv' ⊢
            rw [q2]
            dsimp only
            rw [seg_take (by omega), show p + 1 + (t - (p + 1)) = t by omega, seg_drop, show p + 1 + (t - (p + 1) + 1) = t + 1 by omega, ← hcl (t + 1) (by omega) (by omega), hv', ← hin]
            have hL2 : ((L.set p v).set t v).length = xs.length := by rw [List.length_set, List.length_set, hL]
            have hfi := fill_lev f (p + 1) t (inner xs p e) ((L.set p v).set t v) k (by omega) (by omega) hsi hL2 (by omega) (by omega)
            have hfl := fillF_len xs f (p + 1) t (inner xs p e) ((L.set p v).set t v)
            rw [hfi] at hfl ⊢
            obtain ⟨Z, hZ⟩ : ∃ Z, levI k (inner xs p e) (own (inner xs p e)) (seg xs (p + 1) t) = Z := ⟨_, rfl⟩
            rw [hZ] at hfl ⊢
            rw [List.length_append, List.length_append, List.length_take, List.length_drop, hL2] at hfl
            have hZl : Z.length = t - (p + 1) := by omega
            have hT1 : ((L.set p v).set t v).take (p + 1) = L.take p ++ [v] := by
              rw [List.take_set_of_le (by omega), take_set_drop (by omega)]
            have hT2 : ((L.set p v).set t v).drop t = v :: L.drop (t + 1) := by
              rw [drop_one (by rw [List.length_set, List.length_set]; omega), getD_set_eq (by rw [List.length_set]; omega), List.drop_set_of_lt (by omega), List.drop_set_of_lt (by omega)]
            rw [hT1, hT2]
            obtain ⟨M, hM⟩ : ∃ M, L.take p ++ [v] ++ Z ++ (v :: L.drop (t + 1)) = M := ⟨_, rfl⟩
            have hpl : (L.take p).length = p := by rw [List.length_take]; omega
            have hMl : M.length = xs.length := by rw [← hM]; simp; omega
            rw [hM]
            rw [ih (b - (t + 1)) (by omega) (t + 1) last M k (Nat.le_refl _) (by omega) (by omega) (.inl (by omega)) (shut_after hs (by omega)) hMl]
            have e1 : M.take (t + 1) = L.take p ++ [v] ++ Z ++ [v] := by
              rw [← hM, show L.take p ++ [v] ++ Z ++ (v :: L.drop (t + 1)) = (L.take p ++ [v] ++ Z ++ [v]) ++ L.drop (t + 1) by simp]
              rw [List.take_left' (by simp; omega)]
            have e2 : M.drop b = L.drop b := by
              rw [← hM, show L.take p ++ [v] ++ Z ++ (v :: L.drop (t + 1)) = (L.take p ++ [v] ++ Z ++ [v]) ++ L.drop (t + 1) by simp]
              rw [List.drop_append, List.drop_eq_nil_of_le (by simp; omega), List.nil_append, List.drop_drop]
              congr 1
              simp
              omega
            rw [e1, e2]
            simp
          · rw [q3]
            have hin := inner_seg (e := e) (k := k) (by omega : p < xs.length) hi (by omega)
            rw [q1] at hin hsi hv' ⊢
            rw [items_nil (by omega)] at hv' ⊢
            subst q2
            have hv'' : hv e last 0 [] = v := hv'
            dsimp only
            rw [hv'', ← hin, List.zip_nil_left, List.foldl_nil]
            have hset : (L.set p v).set xs.length v = L.set p v := List.set_eq_of_length_le (by rw [List.length_set]; omega)
            rw [hset]
            rw [fill_lev f (p + 1) xs.length (inner xs p e) (L.set p v) k (by omega) (Nat.le_refl _) hsi (by rw [List.length_set]; exact hL) (by omega) (by omega)]
            rw [take_set_drop (by omega), List.drop_eq_nil_of_le (by rw [List.length_set]; omega), List.drop_eq_nil_of_le (by omega)]
            simp
        · rw [items_leaf hp h2 hi, if_neg hi]
          have hco : clsOf ((p, p, bcl (xs.getD p 0)) :: items xs (p + 1) b) = bcl (xs.getD p 0) :: clsOf (items xs (p + 1) b) := rfl
          rw [hco, lvls_hv, List.zip_cons_cons, List.foldl_cons, hcl (p + 1) (by omega) (by omega)]
          obtain ⟨v, hv'⟩ : ∃ v, hv e last (bcl (xs.getD p 0)) (clsL k (seg xs (p + 1) b)) = v := ⟨_, rfl⟩
          rw [hv']
          have hst : fillStep xs f e L ((p, p, bcl (xs.getD p 0)), v) = L.set p v := by
            unfold fillStep
            rw [if_pos rfl]
          rw [hst, ← hcl (p + 1) (by omega) (by omega)]
          rw [ih (b - (p + 1)) (by omega) (p + 1) _ (L.set p v) k (Nat.le_refl _) (by omega) (by omega) (.inl (by omega)) (shut_after hs (by omega)) (by rw [List.length_set]; exact hL)]
          rw [take_set_drop (by omega), List.drop_set_of_lt (by omega)]
          simp
      · rw [items_nil (by omega), seg_nil (by omega), levI_nil, List.append_nil, List.zip_nil_left, List.foldl_nil]
        rcases hpb with h | h
        · have : p = b := by omega
          subst this
          rw [List.take_append_drop]
        · rw [List.take_of_length_le (by omega), List.drop_eq_nil_of_le (by omega), List.append_nil]
    rw [fillF_eq]
    exact key (b - a) a (own e) L k (Nat.le_refl _) h6 h5 (.inl h1) h3 h4
end Go.Proofs.Ytgefbagojghmeaa
