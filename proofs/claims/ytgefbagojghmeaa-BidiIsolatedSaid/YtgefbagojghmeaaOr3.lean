/-
  Levels and the visual order around an isolate do not hang on its inside; without the program.
-/
import Derived.Test.YtgefbagojghmeaaOr2
import Derived.Test.YtgefbagojghmeaaBi14
import Derived.Test.YtgefbagojghmeaaRb1
namespace Go.Proofs.Ytgefbagojghmeaa
open Go.RowKit

theorem cnt_eq (h : Nat) (c : Int) (l : List Int) : cnt h (c :: l) = if initB c then cnt (h + 1) l else if termB c then (if h = 0 then false else cnt (h - 1) l) else cnt h l := rfl

/-! ### The order -/
theorem rr_fm (q q' : Nat → Bool) (φ : Nat → Option Nat) : ∀ (l acc : List Nat), (∀ x ∈ l, (∀ y, φ x = some y → q x = q' y) ∧ (φ x = none → q x = true)) → (rr q acc l).filterMap φ = rr q' (acc.filterMap φ) (l.filterMap φ)
  | [], acc, _ => rfl
  | x :: l, acc, h => by
    obtain ⟨h1, h2⟩ := h x (List.mem_cons_self ..)
    have hl : ∀ x ∈ l, (∀ y, φ x = some y → q x = q' y) ∧ (φ x = none → q x = true) := fun y hy => h y (List.mem_cons_of_mem _ hy)
    cases hφ : φ x with
    | none =>
      rw [rr, h2 hφ, if_pos rfl, rr_fm q q' φ l _ hl, List.filterMap_cons_none hφ, List.filterMap_cons_none hφ]
    | some y =>
      rw [List.filterMap_cons_some hφ, rr, rr, h1 y hφ]
      split
      · rw [rr_fm q q' φ l _ hl, List.filterMap_cons_some hφ]
      · rw [List.filterMap_append, List.filterMap_cons_some hφ, rr_fm q q' φ l _ hl]
        rfl
/-- An isolate's elements stand together, the inside between its ends. -/
def Form (lv : List Int) (v : Int) (φ : Nat → Option Nat) (l : List Nat) : Prop := ∃ P a I b Q, l = P ++ a :: (I ++ b :: Q) ∧ lv.getD a 0 = v ∧ lv.getD b 0 = v ∧ (∀ x ∈ I, φ x = none) ∧ (∀ x ∈ P ++ Q, φ x ≠ none) ∧ φ a ≠ none ∧ φ b ≠ none
theorem form_step {lv lv0 : List Int} {v : Int} {φ : Nat → Option Nat} (h1 : ∀ x y, φ x = some y → lv.getD x 0 = lv0.getD y 0) (h2 : ∀ l : List Nat, ∀ x ∈ l, φ x = none → x < lv.length → v ≤ lv.getD x 0) {l : List Nat} (hx : ∀ x ∈ l, x < lv.length) (m : Nat) (h : Form lv v φ l) :
    Form lv v φ (stepO lv m l) ∧ (stepO lv m l).filterMap φ = stepO lv0 m (l.filterMap φ) := by
  obtain ⟨P, a, I, b, Q, rfl, ha, hb, hI, hPQ, na, nb⟩ := h
  have hq : ∀ x y, φ x = some y → atLeast lv m x = atLeast lv0 m y := by
    intro x y e
    unfold atLeast
    rw [h1 x y e]
  by_cases hm : (m : Int) ≤ v
  · have qa : atLeast lv m a = true := by unfold atLeast; rw [ha]; exact decide_eq_true hm
    have qb : atLeast lv m b = true := by unfold atLeast; rw [hb]; exact decide_eq_true hm
    have qI : ∀ x ∈ I, atLeast lv m x = true := by
      intro x hxI
      have := h2 I x hxI (hI x hxI) (hx x (by simp [hxI]))
      unfold atLeast
      exact decide_eq_true (by omega)
    obtain ⟨X, Y, e, hXY⟩ := rr_part (atLeast lv m) (a :: (I ++ [b])) Q (by
      intro x hx
      rcases List.mem_cons.1 hx with rfl | hx
      · exact qa
      · rcases List.mem_append.1 hx with hx | hx
        · exact qI x hx
        · simp at hx; rw [hx]; exact qb) P []
    have e0 : P ++ a :: (I ++ b :: Q) = P ++ (a :: (I ++ [b])) ++ Q := by simp
    refine ⟨⟨X, b, I.reverse, a, Y, ?_, hb, ha, fun x hx => hI x (List.mem_reverse.1 hx), fun x hx => hPQ x (by simpa using hXY x hx), nb, na⟩, ?_⟩
    · unfold stepO
      rw [e0, e]
      simp
    · unfold stepO
      refine rr_fm _ _ φ _ [] ?_
      intro x hx
      refine ⟨hq x, fun hn => ?_⟩
      simp only [List.mem_append, List.mem_cons] at hx
      rcases hx with hx | rfl | hx | rfl | hx
      · exact absurd hn (hPQ x (by simp [hx]))
      · exact qa
      · exact qI x hx
      · exact qb
      · exact absurd hn (hPQ x (by simp [hx]))
  · have qa : atLeast lv m a = false := by unfold atLeast; rw [ha]; exact decide_eq_false hm
    have qb : atLeast lv m b = false := by unfold atLeast; rw [hb]; exact decide_eq_false hm
    have hI2 : ∀ x ∈ rr (atLeast lv m) [] I, φ x = none := fun x hx => hI x (by simpa using (rr_perm (atLeast lv m) I []).mem_iff.1 hx)
    have hP2 : ∀ x ∈ rr (atLeast lv m) [] P, x ∈ P := fun x hx => by simpa using (rr_perm (atLeast lv m) P []).mem_iff.1 hx
    have hQ2 : ∀ x ∈ rr (atLeast lv m) [] Q, x ∈ Q := fun x hx => by simpa using (rr_perm (atLeast lv m) Q []).mem_iff.1 hx
    have e : stepO lv m (P ++ a :: (I ++ b :: Q)) = rr (atLeast lv m) [] P ++ a :: (rr (atLeast lv m) [] I ++ b :: rr (atLeast lv m) [] Q) := by
      unfold stepO
      rw [rr_sep qa, rr_sep qb]
    refine ⟨⟨_, a, _, b, _, e, ha, hb, hI2, fun x hx => ?_, na, nb⟩, ?_⟩
    · rcases List.mem_append.1 hx with hx | hx
      · exact hPQ x (List.mem_append.2 (.inl (hP2 x hx)))
      · exact hPQ x (List.mem_append.2 (.inr (hQ2 x hx)))
    · obtain ⟨a', ha'⟩ : ∃ a', φ a = some a' := Option.ne_none_iff_exists'.1 na
      obtain ⟨b', hb'⟩ : ∃ b', φ b = some b' := Option.ne_none_iff_exists'.1 nb
      have qa' : atLeast lv0 m a' = false := by rw [← hq a a' ha']; exact qa
      have qb' : atLeast lv0 m b' = false := by rw [← hq b b' hb']; exact qb
      have fI : ∀ J : List Nat, (∀ x ∈ J, φ x = none) → J.filterMap φ = [] := fun J h => List.filterMap_eq_nil_iff.2 h
      rw [e]
      unfold stepO
      simp only [List.filterMap_append, List.filterMap_cons_some ha', List.filterMap_cons_some hb']
      rw [fI _ hI2, fI _ hI, List.nil_append, List.nil_append, rr_sep qa', rr_not qb']
      rw [rr_fm _ (atLeast lv0 m) φ P [] (fun x hx => ⟨hq x, fun hn => absurd hn (hPQ x (by simp [hx]))⟩), rr_fm _ (atLeast lv0 m) φ Q [] (fun x hx => ⟨hq x, fun hn => absurd hn (hPQ x (by simp [hx]))⟩)]
      rfl
theorem form_ord {lv lv0 : List Int} {v : Int} {φ : Nat → Option Nat} (h1 : ∀ x y, φ x = some y → lv.getD x 0 = lv0.getD y 0) (h2 : ∀ l : List Nat, ∀ x ∈ l, φ x = none → x < lv.length → v ≤ lv.getD x 0) : ∀ (m : Nat) (l : List Nat), (∀ x ∈ l, x < lv.length) → Form lv v φ l →
    (ordN lv m l).filterMap φ = ordN lv0 m (l.filterMap φ)
  | 0, _, _, _ => rfl
  | m + 1, l, hx, h => by
    obtain ⟨f1, f2⟩ := form_step h1 h2 hx (m + 1) h
    rw [ordN, ordN, form_ord h1 h2 m _ (fun x hxm => hx x ((stepO_perm lv (m + 1) l).mem_iff.1 hxm)) f1, f2]
/-- An index counted without a part. -/
def skipI (n k i : Nat) : Option Nat := if i < n then some i else if n + k ≤ i then some (i - k) else none
theorem fm_congr {f g : Nat → Option Nat} : ∀ {l : List Nat}, (∀ x ∈ l, f x = g x) → l.filterMap f = l.filterMap g
  | [], _ => rfl
  | x :: l, h => by
    rw [List.filterMap_cons, List.filterMap_cons, h x (List.mem_cons_self ..), fm_congr fun y hy => h y (List.mem_cons_of_mem _ hy)]
theorem range_split (n m : Nat) : List.range (n + m) = List.range n ++ (List.range m).map (n + ·) := List.range_add ..
theorem range_skip (n k m : Nat) : (List.range (n + k + m)).filterMap (skipI n k) = List.range (n + m) := by
  rw [range_split (n + k) m, range_split n k, range_split n m, List.filterMap_append, List.filterMap_append]
  have e1 : (List.range n).filterMap (skipI n k) = List.range n := by
    have : (List.range n).filterMap (skipI n k) = (List.range n).filterMap some := fm_congr fun x hx => by
      unfold skipI
      rw [if_pos (List.mem_range.1 hx)]
    rw [this, List.filterMap_some]
  have e2 : ((List.range k).map (n + ·)).filterMap (skipI n k) = [] := by
    rw [List.filterMap_eq_nil_iff]
    intro x hx
    obtain ⟨j, hj, rfl⟩ := List.mem_map.1 hx
    have := List.mem_range.1 hj
    unfold skipI
    rw [if_neg (by omega), if_neg (by omega)]
  have e3 : ((List.range m).map (n + k + ·)).filterMap (skipI n k) = (List.range m).map (n + ·) := by
    rw [List.filterMap_map]
    have : (List.range m).filterMap (skipI n k ∘ (n + k + ·)) = (List.range m).filterMap (some ∘ (n + ·)) := fm_congr fun x _ => by
      show skipI n k (n + k + x) = some (n + x)
      unfold skipI
      rw [if_neg (by omega), if_pos (by omega), show n + k + x - k = n + x by omega]
    rw [this, List.filterMap_eq_map]
  rw [e1, e2, e3, List.append_nil]
theorem getD_app_l {a b : List Int} {i : Nat} (h : i < a.length) : (a ++ b).getD i 0 = a.getD i 0 := by
  rw [List.getD_eq_getElem?_getD, List.getElem?_append_left h, List.getD_eq_getElem?_getD]
theorem getD_app_r {a b : List Int} {i : Nat} (h : a.length ≤ i) : (a ++ b).getD i 0 = b.getD (i - a.length) 0 := by
  rw [List.getD_eq_getElem?_getD, List.getElem?_append_right h, List.getD_eq_getElem?_getD]
/-- The order around an isolate is that of the levels without its inside. -/
theorem order_skip {LA LX LB : List Int} {v : Int} (hLX : ∀ x ∈ LX, v ≤ x) (hok : okLv (LA ++ v :: (LX ++ v :: LB)) = true) :
    (order (LA ++ v :: (LX ++ v :: LB))).filterMap (skipI (LA.length + 1) LX.length) = order (LA ++ v :: v :: LB) := by
  have hok0 : okLv (LA ++ v :: v :: LB) = true := by
    unfold okLv at hok ⊢
    simp only [List.all_append, List.all_cons, Bool.and_eq_true] at hok ⊢
    exact ⟨hok.1, hok.2.1, hok.2.2.2⟩
  obtain ⟨lv, hlv⟩ : ∃ lv, LA ++ v :: (LX ++ v :: LB) = lv := ⟨_, rfl⟩
  obtain ⟨lv0, hlv0⟩ : ∃ lv0, LA ++ v :: v :: LB = lv0 := ⟨_, rfl⟩
  have hl : lv.length = LA.length + 1 + LX.length + (LB.length + 1) := by rw [← hlv]; simp; omega
  have hl0 : lv0.length = LA.length + 1 + (LB.length + 1) := by rw [← hlv0]; simp; omega
  have ea : lv = (LA ++ [v]) ++ (LX ++ v :: LB) := by rw [← hlv]; simp
  have eb : lv = ((LA ++ [v]) ++ LX) ++ (v :: LB) := by rw [← hlv]; simp
  have e0 : lv0 = (LA ++ [v]) ++ (v :: LB) := by rw [← hlv0]; simp
  have hla : (LA ++ [v]).length = LA.length + 1 := by simp
  have hlb : ((LA ++ [v]) ++ LX).length = LA.length + 1 + LX.length := by rw [List.length_append, hla]
  rw [hlv] at hok ⊢
  rw [hlv0] at hok0 ⊢
  unfold order
  rw [if_pos hok, if_pos hok0]
  have h1 : ∀ x y, skipI (LA.length + 1) LX.length x = some y → lv.getD x 0 = lv0.getD y 0 := by
    intro x y h
    unfold skipI at h
    split at h
    · cases h
      have e2 : (LA ++ [v] ++ v :: LB).getD x 0 = (LA ++ [v]).getD x 0 := getD_app_l (by omega)
      rw [ea, e0, e2]
      exact getD_app_l (by omega)
    · split at h
      · cases h
        rw [eb, e0, getD_app_r (by omega), getD_app_r (by omega), hla, hlb]
        congr 1
        omega
      · cases h
  have h2 : ∀ l : List Nat, ∀ x ∈ l, skipI (LA.length + 1) LX.length x = none → x < lv.length → v ≤ lv.getD x 0 := by
    intro l x _ h _
    unfold skipI at h
    split at h
    · cases h
    · split at h
      · cases h
      · rename_i n1 n2
        have hi : x - (LA.length + 1) < LX.length := by omega
        rw [ea, getD_app_r (by omega), hla, getD_app_l hi]
        refine hLX _ ?_
        have e : LX.getD (x - (LA.length + 1)) 0 = LX[x - (LA.length + 1)] := by simp [List.getD, hi]
        rw [e]
        exact List.getElem_mem hi
  have hva : lv.getD LA.length 0 = v := by rw [ea, getD_app_l (by omega), getD_app_r (by omega), Nat.sub_self]; rfl
  have hvb : lv.getD (LA.length + 1 + LX.length) 0 = v := by rw [eb, getD_app_r (by omega), hlb, Nat.sub_self]; rfl
  have hform : Form lv v (skipI (LA.length + 1) LX.length) (List.range lv.length) := by
    refine ⟨List.range LA.length, LA.length, (List.range LX.length).map (LA.length + 1 + ·), LA.length + 1 + LX.length, (List.range LB.length).map (LA.length + 1 + LX.length + 1 + ·), ?_, hva, hvb, ?_, ?_, ?_, ?_⟩
    · rw [hl, show LA.length + 1 + LX.length + (LB.length + 1) = LA.length + 1 + LX.length + 1 + LB.length by omega, range_split, List.range_succ, range_split, List.range_succ]
      simp
    · intro x hx
      obtain ⟨j, hj, rfl⟩ := List.mem_map.1 hx
      have := List.mem_range.1 hj
      unfold skipI
      rw [if_neg (by omega), if_neg (by omega)]
    · intro x hx h
      unfold skipI at h
      rcases List.mem_append.1 hx with hx | hx
      · have := List.mem_range.1 hx
        rw [if_pos (by omega)] at h
        cases h
      · obtain ⟨j, hj, rfl⟩ := List.mem_map.1 hx
        rw [if_neg (by omega), if_pos (by omega)] at h
        cases h
    · unfold skipI
      rw [if_pos (by omega)]
      simp
    · unfold skipI
      rw [if_neg (by omega), if_pos (by omega)]
      simp
  rw [form_ord h1 h2 100 _ (fun x hx => List.mem_range.1 hx) hform]
  congr 1
  rw [hl, range_skip, hl0]

/-! ### The levels -/
/-- The height behind a list. -/
def hg : Nat → List Int → Nat
  | h, [] => h
  | h, c :: l => if initB c then hg (h + 1) l else if termB c then hg (h - 1) l else hg h l
theorem mt_app : ∀ (A Z : List Int) (h : Nat), 1 ≤ h → (∃ j, mt h A = some j ∧ mt h (A ++ Z) = some j) ∨ (mt h A = none ∧ 1 ≤ hg h A ∧ mt h (A ++ Z) = (mt (hg h A) Z).map (· + A.length))
  | [], Z, h, hh => .inr ⟨rfl, hh, by simp [hg]⟩
  | c :: A, Z, h, hh => by
    rw [List.cons_append, mt, mt, hg]
    have lift : ∀ k, ((∃ j, mt k A = some j ∧ mt k (A ++ Z) = some j) ∨ (mt k A = none ∧ 1 ≤ hg k A ∧ mt k (A ++ Z) = (mt (hg k A) Z).map (· + A.length))) →
        (∃ j, (mt k A).map (· + 1) = some j ∧ (mt k (A ++ Z)).map (· + 1) = some j) ∨ ((mt k A).map (· + 1) = none ∧ 1 ≤ hg k A ∧ (mt k (A ++ Z)).map (· + 1) = (mt (hg k A) Z).map (· + (c :: A).length)) := by
      intro k hk
      rcases hk with ⟨j, a, b⟩ | ⟨a, b, d⟩
      · exact .inl ⟨j + 1, by rw [a]; rfl, by rw [b]; rfl⟩
      · refine .inr ⟨by rw [a]; rfl, b, ?_⟩
        rw [d, Option.map_map]
        rfl
    split
    · exact lift _ (mt_app A Z (h + 1) (by omega))
    · split
      · split
        · exact .inl ⟨0, rfl, rfl⟩
        · exact lift _ (mt_app A Z (h - 1) (by omega))
      · exact lift _ (mt_app A Z h hh)
theorem mt_cnt : ∀ (X Z : List Int) (h k : Nat), 1 ≤ h → cnt k X = true → mt (h + k) (X ++ Z) = (mt h Z).map (· + X.length)
  | [], Z, h, k, _, hc => by
    have : k = 0 := by simpa [cnt] using hc
    subst this
    simp
  | c :: X, Z, h, k, hh, hc => by
    rw [cnt_eq] at hc
    rw [List.cons_append, mt]
    have e : ∀ q, mt q (X ++ Z) = (mt h Z).map (· + X.length) → (mt q (X ++ Z)).map (· + 1) = (mt h Z).map (· + (c :: X).length) := by
      intro q hq
      rw [hq, Option.map_map]
      rfl
    split at hc
    · rename_i hi
      rw [if_pos hi]
      exact e _ (mt_cnt X Z h (k + 1) hh hc)
    · rename_i hi
      rw [if_neg hi]
      split at hc
      · rename_i ht
        rw [if_pos ht]
        split at hc
        · cases hc
        · rw [if_neg (by omega)]
          refine e _ ?_
          rw [show h + k - 1 = h + (k - 1) by omega]
          exact mt_cnt X Z h (k - 1) hh hc
      · rename_i ht
        rw [if_neg ht]
        exact e _ (mt_cnt X Z h k hh hc)
section
variable {o p : Int} (ho : initB o = true) (hp : initB p = false ∧ termB p = true)
include ho hp
theorem mt_iso {X B : List Int} (hX : cnt 0 X = true) {h : Nat} (hh : 1 ≤ h) : mt h (o :: (X ++ p :: B)) = (mt h B).map (· + (X.length + 2)) := by
  rw [mt, if_pos ho]
  have e := mt_cnt X (p :: B) (h + 1) 0 (by omega) hX
  rw [show h + 1 + 0 = h + 1 from rfl] at e
  rw [e, mt, hp.1, hp.2, if_neg (by decide), if_pos rfl, if_neg (by omega), Nat.add_sub_cancel]
  rw [Option.map_map, Option.map_map]
  congr 1
  funext x
  show x + 1 + X.length + 1 = _
  omega
omit ho in
theorem mt_shut {X B : List Int} (hX : cnt 0 X = true) : mt 1 (X ++ p :: B) = some X.length := by
  have e := mt_cnt X (p :: B) 1 0 (by omega) hX
  rw [show 1 + 0 = 1 from rfl] at e
  rw [e, mt, hp.1, hp.2, if_neg (by decide), if_pos rfl, if_pos (by omega)]
  show some (0 + X.length) = _
  rw [Nat.zero_add]
omit ho hp in
theorem iso_cut (A X B : List Int) (j : Nat) : (A ++ o :: (X ++ p :: B)).take (j + (X.length + 2) + A.length) = A ++ o :: (X ++ p :: B.take j) ∧ (A ++ o :: (X ++ p :: B)).drop (j + (X.length + 2) + A.length + 1) = B.drop (j + 1) := by
  obtain ⟨R, hR⟩ : ∃ R, R = A ++ o :: (X ++ [p]) := ⟨_, rfl⟩
  have e : ∀ C : List Int, A ++ o :: (X ++ p :: C) = R ++ C := by intro C; rw [hR]; simp
  have l : R.length = A.length + X.length + 2 := by rw [hR]; simp; omega
  rw [e B, e (B.take j)]
  constructor
  · rw [show j + (X.length + 2) + A.length = R.length + j by omega, List.take_length_add_append]
  · rw [show j + (X.length + 2) + A.length + 1 = R.length + (j + 1) by omega, List.drop_length_add_append]
omit ho hp in
theorem iso_len (A X B : List Int) : (A ++ o :: (X ++ p :: B)).length = A.length + X.length + 2 + B.length := by simp; omega
/-- Where an isolate that begins ahead of another one ends. -/
theorem mt_around (A X Y B : List Int) (hX : cnt 0 X = true) (hY : cnt 0 Y = true) :
    (∃ j, j < A.length ∧ mt 1 (A ++ o :: (X ++ p :: B)) = some j ∧ mt 1 (A ++ o :: (Y ++ p :: B)) = some j) ∨
    (∃ j, j < B.length ∧ mt 1 (A ++ o :: (X ++ p :: B)) = some (j + (X.length + 2) + A.length) ∧ mt 1 (A ++ o :: (Y ++ p :: B)) = some (j + (Y.length + 2) + A.length)) ∨
    (mt 1 (A ++ o :: (X ++ p :: B)) = none ∧ mt 1 (A ++ o :: (Y ++ p :: B)) = none) := by
  rcases mt_app A (o :: (X ++ p :: B)) 1 (Nat.le_refl _) with ⟨j, a, b⟩ | ⟨a, b, c⟩
  · rcases mt_app A (o :: (Y ++ p :: B)) 1 (Nat.le_refl _) with ⟨j', a', b'⟩ | ⟨a', _, _⟩
    · rw [a] at a'
      cases a'
      exact .inl ⟨j, (mt_some A 0 0 j a).1, b, b'⟩
    · rw [a] at a'; cases a'
  · rcases mt_app A (o :: (Y ++ p :: B)) 1 (Nat.le_refl _) with ⟨j', a', b'⟩ | ⟨a', b', c'⟩
    · rw [a] at a'; cases a'
    · rw [mt_iso ho hp hX b] at c
      rw [mt_iso ho hp hY b] at c'
      cases hm : mt (hg 1 A) B with
      | none =>
        rw [hm] at c c'
        exact .inr (.inr ⟨c, c'⟩)
      | some j =>
        rw [hm] at c c'
        obtain ⟨q, hq⟩ : ∃ q, hg 1 A = q + 1 := ⟨hg 1 A - 1, by omega⟩
        rw [hq] at hm
        exact .inr (.inl ⟨j, (mt_some B q 0 j hm).1, c, c'⟩)
theorem cls_iso (X Y : List Int) (hX : cnt 0 X = true) (hY : cnt 0 Y = true) : ∀ (f g : Nat) (A B : List Int), (A ++ o :: (X ++ p :: B)).length ≤ f → (A ++ o :: (Y ++ p :: B)).length ≤ g → clsL f (A ++ o :: (X ++ p :: B)) = clsL g (A ++ o :: (Y ++ p :: B))
  | 0, _, A, B, h, _ => by rw [iso_len] at h; omega
  | f + 1, 0, A, B, _, h => by rw [iso_len] at h; omega
  | f + 1, g + 1, [], B, hf, hg => by
    rw [iso_len] at hf hg
    rw [List.nil_append, List.nil_append, clsL, clsL, if_pos ho, if_pos ho, mt_shut hp hX, mt_shut hp hY]
    dsimp only
    have e : ∀ Z : List Int, (Z ++ p :: B).drop (Z.length + 1) = B := by
      intro Z
      rw [show Z ++ p :: B = (Z ++ [p]) ++ B by simp, show Z.length + 1 = (Z ++ [p]).length by simp, List.drop_left]
    rw [e, e]
    congr 1
    exact clsL_fuel f g B (by omega) (by omega)
  | f + 1, g + 1, c :: A, B, hf, hg => by
    have hf' := hf
    have hg' := hg
    rw [iso_len] at hf' hg'
    rw [List.length_cons] at hf' hg'
    rw [List.cons_append, List.cons_append, clsL, clsL]
    congr 1
    split
    · rcases mt_around ho hp A X Y B hX hY with ⟨j, hj, a, b⟩ | ⟨j, hj, a, b⟩ | ⟨a, b⟩
      · rw [a, b]
        dsimp only
        have e : ∀ Z : List Int, (A ++ Z).drop (j + 1) = A.drop (j + 1) ++ Z := fun Z => List.drop_append_of_le_length (by omega)
        rw [e, e]
        refine cls_iso X Y hX hY f g _ B ?_ ?_
        all_goals
          rw [iso_len, List.length_drop]
          omega
      · rw [a, b]
        dsimp only
        rw [(iso_cut A X B j).2, (iso_cut A Y B j).2]
        exact clsL_fuel f g _ (by rw [List.length_drop]; omega) (by rw [List.length_drop]; omega)
      · rw [a, b]
    · refine cls_iso X Y hX hY f g A B ?_ ?_
      all_goals
        rw [iso_len]
        omega
omit ho hp in
theorem levI_fuel : ∀ (f g : Nat) (l : List Int) (e last : Int), l.length ≤ f → l.length ≤ g → levI f e last l = levI g e last l
  | f, g, [], _, _, _, _ => by rw [levI_nil, levI_nil]
  | 0, _, c :: l, _, _, h, _ => by simp at h
  | f + 1, 0, c :: l, _, _, _, h => by simp at h
  | f + 1, g + 1, c :: l, e, last, h, k => by
    have h : l.length ≤ f := by simpa using h
    have k : l.length ≤ g := by simpa using k
    rw [levI, levI]
    split
    · cases hm : mt 1 l with
      | none =>
        dsimp only
        have ei : innerL e c f l = innerL e c g l := by unfold innerL; rw [clsL_fuel f g l h k]
        rw [ei, levI_fuel f g l _ _ h k]
      | some j =>
        dsimp only
        have ei : innerL e c f (l.take j) = innerL e c g (l.take j) := by unfold innerL; rw [clsL_fuel f g (l.take j) (by rw [List.length_take]; omega) (by rw [List.length_take]; omega)]
        rw [ei, levI_fuel f g (l.take j) _ _ (by rw [List.length_take]; omega) (by rw [List.length_take]; omega), levI_fuel f g (l.drop (j + 1)) _ _ (by rw [List.length_drop]; omega) (by rw [List.length_drop]; omega), clsL_fuel f g (l.drop (j + 1)) (by rw [List.length_drop]; omega) (by rw [List.length_drop]; omega)]
    · rw [levI_fuel f g l _ _ h k, clsL_fuel f g l h k]
/-- Two lists of levels that differ in the inside alone. -/
def Same2 (A X Y B : List Int) (L M : List Int) : Prop := ∃ LA v LX LY LB, L = LA ++ v :: (LX ++ v :: LB) ∧ M = LA ++ v :: (LY ++ v :: LB) ∧ LA.length = A.length ∧ LX.length = X.length ∧ LY.length = Y.length ∧ LB.length = B.length ∧ (∀ x ∈ LX, v ≤ x) ∧ (∀ x ∈ LY, v ≤ x)
omit ho hp in
theorem Same2.front {A X Y B L M : List Int} (P : List Int) (W : List Int) (hl : W.length = P.length) (h : Same2 A X Y B L M) : Same2 (P ++ A) X Y B (W ++ L) (W ++ M) := by
  obtain ⟨LA, v, LX, LY, LB, rfl, rfl, h1, h2, h3, h4, h5, h6⟩ := h
  exact ⟨W ++ LA, v, LX, LY, LB, by simp, by simp, by simp [h1, hl], h2, h3, h4, h5, h6⟩
omit ho hp in
theorem Same2.back {A X Y B L M : List Int} (P : List Int) (W : List Int) (hl : W.length = P.length) (h : Same2 A X Y B L M) : Same2 A X Y (B ++ P) (L ++ W) (M ++ W) := by
  obtain ⟨LA, v, LX, LY, LB, rfl, rfl, h1, h2, h3, h4, h5, h6⟩ := h
  exact ⟨LA, v, LX, LY, LB ++ W, by simp, by simp, h1, h2, h3, by simp [h4, hl], h5, h6⟩
omit ho hp in
theorem good_low {lo hi : Int} {l v : List Int} (hl : v.length = l.length) (h : AllGood lo hi l v) : ∀ x ∈ v, lo ≤ x := by
  intro x hx
  obtain ⟨i, hi', rfl⟩ := List.getElem_of_mem hx
  have hm : (l[i]'(by omega), v[i]) ∈ l.zip v := by
    rw [List.mem_iff_getElem?]
    exact ⟨i, by rw [List.getElem?_zip_eq_some]; exact ⟨by simp [show i < l.length by omega], by simp [hi']⟩⟩
  exact (h _ hm).2.2.2.1
omit ho hp in
theorem hv_low {e last : Int} {cs : List Int} : hv e last 0 cs ≤ e + 1 := by
  unfold hv strong
  rw [if_neg (by decide), if_neg (by decide)]
  repeat' split
  all_goals omega
theorem lev_iso (X Y : List Int) (hX : cnt 0 X = true) (hY : cnt 0 Y = true) : ∀ (f g : Nat) (A B : List Int) (e last : Int), (A ++ o :: (X ++ p :: B)).length ≤ f → (A ++ o :: (Y ++ p :: B)).length ≤ g → 0 ≤ e → (last = 1 ∨ last = 2) →
    Same2 A X Y B (levI f e last (A ++ o :: (X ++ p :: B))) (levI g e last (A ++ o :: (Y ++ p :: B)))
  | 0, _, A, B, _, _, h, _, _, _ => by rw [iso_len] at h; omega
  | f + 1, 0, A, B, _, _, _, h, _, _ => by rw [iso_len] at h; omega
  | f + 1, g + 1, [], B, e, last, hf, hg, he, hl => by
    rw [iso_len, List.length_nil] at hf hg
    rw [List.nil_append, List.nil_append, levI, levI, if_pos ho, if_pos ho, mt_shut hp hX, mt_shut hp hY]
    dsimp only
    have ed : ∀ Z : List Int, (Z ++ p :: B).drop (Z.length + 1) = B := by
      intro Z
      rw [show Z ++ p :: B = (Z ++ [p]) ++ B by simp, show Z.length + 1 = (Z ++ [p]).length by simp, List.drop_left]
    have et : ∀ Z : List Int, (Z ++ p :: B).take Z.length = Z := fun Z => List.take_left ..
    rw [ed, ed, et, et, clsL_fuel g f B (by omega) (by omega), levI_fuel g f B e last (by omega) (by omega)]
    have hlow := hv_low (e := e) (last := last) (cs := clsL f B)
    have low : ∀ (Z : List Int) (k : Nat), Z.length ≤ k → ∀ x ∈ levI k (innerL e o k Z) (own (innerL e o k Z)) Z, hv e last 0 (clsL f B) ≤ x := by
      intro Z k hk x hx
      obtain ⟨q1, q2⟩ := inner_bound (e := e) (c := o) (k := k) (inn := Z)
      have := good_low (levI_len k Z _ _ hk) (levI_good k Z (innerL e o k Z) (own (innerL e o k Z)) hk (by omega) (own_or _)) x hx
      omega
    exact ⟨[], _, _, _, levI f e last B, rfl, rfl, rfl, levI_len f X _ _ (by omega), levI_len g Y _ _ (by omega), levI_len f B _ _ (by omega), low X f (by omega), low Y g (by omega)⟩
  | f + 1, g + 1, c :: A, B, e, last, hf, hg, he, hl => by
    have hf' := hf
    have hg' := hg
    rw [iso_len] at hf' hg'
    rw [List.length_cons] at hf' hg'
    rw [List.cons_append, List.cons_append, levI, levI]
    have inb := fun (k : Nat) (Z : List Int) => inner_bound (e := e) (c := c) (k := k) (inn := Z)
    split
    · rcases mt_around ho hp A X Y B hX hY with ⟨j, hj, a, b⟩ | ⟨j, hj, a, b⟩ | ⟨a, b⟩
      · rw [a, b]
        dsimp only
        have ed : ∀ Z : List Int, (A ++ Z).drop (j + 1) = A.drop (j + 1) ++ Z := fun Z => List.drop_append_of_le_length (by omega)
        have et : ∀ Z : List Int, (A ++ Z).take j = A.take j := fun Z => List.take_append_of_le_length (by omega)
        rw [ed, ed, et, et]
        have hlt : (A.take j).length ≤ f := by rw [List.length_take]; omega
        have hlg : (A.take j).length ≤ g := by rw [List.length_take]; omega
        have ec : clsL g (A.drop (j + 1) ++ o :: (Y ++ p :: B)) = clsL f (A.drop (j + 1) ++ o :: (X ++ p :: B)) := (cls_iso ho hp X Y hX hY f g _ B (by rw [iso_len, List.length_drop]; omega) (by rw [iso_len, List.length_drop]; omega)).symm
        have ei : innerL e c g (A.take j) = innerL e c f (A.take j) := by unfold innerL; rw [clsL_fuel f g _ hlt hlg]
        rw [ec, ei, levI_fuel g f (A.take j) _ _ hlg hlt]
        obtain ⟨U, hU⟩ : ∃ U, hv e last 0 (clsL f (A.drop (j + 1) ++ o :: (X ++ p :: B))) = U := ⟨_, rfl⟩
        obtain ⟨V, hV⟩ : ∃ V, levI f (innerL e c f (A.take j)) (own (innerL e c f (A.take j))) (A.take j) = V := ⟨_, rfl⟩
        have hVl : V.length = j := by rw [← hV, levI_len f _ _ _ hlt, List.length_take]; omega
        rw [hU, hV]
        have ih := lev_iso X Y hX hY f g (A.drop (j + 1)) B e last (by rw [iso_len, List.length_drop]; omega) (by rw [iso_len, List.length_drop]; omega) he hl
        have := ih.front (c :: A.take (j + 1)) (U :: (V ++ [U])) (by simp only [List.length_cons, List.length_append, List.length_take, List.length_nil]; omega)
        rw [List.cons_append, List.take_append_drop] at this
        simpa using this
      · rw [a, b]
        dsimp only
        rw [(iso_cut A X B j).1, (iso_cut A X B j).2, (iso_cut A Y B j).1, (iso_cut A Y B j).2]
        have hlt : (B.drop (j + 1)).length ≤ f := by rw [List.length_drop]; omega
        have hlg : (B.drop (j + 1)).length ≤ g := by rw [List.length_drop]; omega
        have q1 : (A ++ o :: (X ++ p :: B.take j)).length ≤ f := by rw [iso_len, List.length_take]; omega
        have q2 : (A ++ o :: (Y ++ p :: B.take j)).length ≤ g := by rw [iso_len, List.length_take]; omega
        have ei : innerL e c g (A ++ o :: (Y ++ p :: B.take j)) = innerL e c f (A ++ o :: (X ++ p :: B.take j)) := by unfold innerL; rw [cls_iso ho hp X Y hX hY f g A (B.take j) q1 q2]
        rw [ei, clsL_fuel g f _ hlg hlt, levI_fuel g f _ e last hlg hlt]
        obtain ⟨U, hU⟩ : ∃ U, hv e last 0 (clsL f (B.drop (j + 1))) = U := ⟨_, rfl⟩
        obtain ⟨W, hW⟩ : ∃ W, levI f e last (B.drop (j + 1)) = W := ⟨_, rfl⟩
        have hWl : W.length = B.length - (j + 1) := by rw [← hW, levI_len f _ _ _ hlt, List.length_drop]
        obtain ⟨E, hE⟩ : ∃ E, innerL e c f (A ++ o :: (X ++ p :: B.take j)) = E := ⟨_, rfl⟩
        have hE0 := (inb f (A ++ o :: (X ++ p :: B.take j))).1
        rw [hE] at hE0
        rw [hU, hW, hE]
        have ih := lev_iso X Y hX hY f g A (B.take j) E (own E) q1 q2 (by omega) (own_or _)
        have := (ih.back (B.drop j) (U :: W) (by rw [List.length_cons, hWl, List.length_drop]; omega)).front [c] [U] rfl
        rw [List.take_append_drop] at this
        simpa using this
      · rw [a, b]
        dsimp only
        have q1 : (A ++ o :: (X ++ p :: B)).length ≤ f := by rw [iso_len]; omega
        have q2 : (A ++ o :: (Y ++ p :: B)).length ≤ g := by rw [iso_len]; omega
        have ei : innerL e c g (A ++ o :: (Y ++ p :: B)) = innerL e c f (A ++ o :: (X ++ p :: B)) := by unfold innerL; rw [cls_iso ho hp X Y hX hY f g A B q1 q2]
        rw [ei]
        obtain ⟨E, hE⟩ : ∃ E, innerL e c f (A ++ o :: (X ++ p :: B)) = E := ⟨_, rfl⟩
        have hE0 := (inb f (A ++ o :: (X ++ p :: B))).1
        rw [hE] at hE0
        rw [hE]
        have := (lev_iso X Y hX hY f g A B E (own E) q1 q2 (by omega) (own_or _)).front [c] [hv e last 0 []] rfl
        simpa using this
    · have q1 : (A ++ o :: (X ++ p :: B)).length ≤ f := by rw [iso_len]; omega
      have q2 : (A ++ o :: (Y ++ p :: B)).length ≤ g := by rw [iso_len]; omega
      rw [← cls_iso ho hp X Y hX hY f g A B q1 q2]
      have := (lev_iso X Y hX hY f g A B e (nl last (bcl c)) q1 q2 he (nl_or hl)).front [c] [hv e last (bcl c) (clsL f (A ++ o :: (X ++ p :: B)))] rfl
      simpa using this
end
/-! ### The depth -/
theorem mh_le : ∀ (l : List Int) (h k : Nat), mh (h + k) l ≤ h + mh k l
  | [], h, k => Nat.le_refl _
  | c :: l, h, k => by
    rw [mh_cons, mh_cons]
    split
    · exact mh_le l h (k + 1)
    · split
      · by_cases hk : k = 0
        · subst hk
          by_cases hh : h = 0
          · subst hh; simp
          · have := mh_le l (h - 1) 0
            rw [Nat.add_zero] at this
            rw [Nat.add_zero, show (0 : Nat) - 1 = 0 from rfl, Nat.max_eq_right (Nat.zero_le _)]
            omega
        · have := mh_le l h (k - 1)
          rw [show h + k - 1 = h + (k - 1) by omega]
          omega
      · exact mh_le l h k
theorem hg_le : ∀ (l : List Int) (h : Nat), hg h l ≤ mh h l
  | [], h => Nat.le_refl _
  | c :: l, h => by
    rw [hg, mh_cons]
    split
    · exact hg_le l _
    · split
      · have := hg_le l (h - 1); omega
      · exact hg_le l h
theorem mh_app : ∀ (A Z : List Int) (h : Nat), mh h (A ++ Z) = max (mh h A) (mh (hg h A) Z)
  | [], Z, h => by
    have := mh_ge Z h
    simp [mh, hg]
    omega
  | c :: A, Z, h => by
    rw [List.cons_append, mh_cons, mh_cons, hg]
    split
    · exact mh_app A Z _
    · split
      · rw [mh_app A Z (h - 1)]
        omega
      · exact mh_app A Z h
/-- The depth of a text around an isolate. -/
theorem mh_iso {o p : Int} (ho : initB o = true) (hp : initB p = false ∧ termB p = true) {A X B : List Int} (hX : cnt 0 X = true) : mh 0 (A ++ o :: (X ++ p :: B)) ≤ mh 0 A + max (1 + mh 0 X) (mh 0 B) := by
  have h1 := hg_le A 0
  have e : mh (hg 0 A) (o :: (X ++ p :: B)) = max (mh (hg 0 A + 1) X) (mh (hg (hg 0 A + 1) X) (p :: B)) := by
    rw [mh_cons, if_pos ho, mh_app]
  have hcn : ∀ (X : List Int) (h k : Nat), cnt k X = true → hg (h + k) X = h := by
    intro X
    induction X with
    | nil =>
      intro h k hc
      have : k = 0 := by simpa [cnt] using hc
      subst this
      rfl
    | cons c X ih =>
      intro h k hc
      rw [cnt_eq] at hc
      rw [hg]
      split at hc
      · rename_i hi
        rw [if_pos hi]
        exact ih h (k + 1) hc
      · rename_i hi
        rw [if_neg hi]
        split at hc
        · rename_i ht
          rw [if_pos ht]
          split at hc
          · cases hc
          · rw [show h + k - 1 = h + (k - 1) by omega]
            exact ih h (k - 1) hc
        · rename_i ht
          rw [if_neg ht]
          exact ih h k hc
  have e2 : hg (hg 0 A + 1) X = hg 0 A + 1 := hcn X (hg 0 A + 1) 0 hX
  rw [mh_app, e, e2, mh_cons, hp.1, hp.2, if_neg (by decide), if_pos rfl, Nat.add_sub_cancel]
  have h2 := mh_le X (hg 0 A + 1) 0
  have h3 := mh_le B (hg 0 A) 0
  rw [Nat.add_zero] at h2 h3
  omega
end Go.Proofs.Ytgefbagojghmeaa
