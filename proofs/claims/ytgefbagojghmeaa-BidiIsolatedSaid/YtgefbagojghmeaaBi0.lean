/-
  Items, directions and levels of a segment, without the program.
-/
import Derived.Test.YtgefbagojghmeaaRd2
namespace Go.Proofs.Ytgefbagojghmeaa
open Go.RowKit

/-- The class of an element that is no initiator or terminator; of these 0. -/
def bcl (c : Int) : Int :=
  if (1424 ≤ c ∧ c ≤ 2303) ∨ (64285 ≤ c ∧ c ≤ 65276) then 2
  else if 48 ≤ c ∧ c ≤ 57 then 3 else if (65 ≤ c ∧ c ≤ 90) ∨ (97 ≤ c ∧ c ≤ 122) ∨ (192 ≤ c ∧ (c < 8192 ∨ 12287 < c)) then 1 else 0
theorem bcl_init {c : Int} (h : initB c = true) : bcl c = 0 := by
  simp [initB] at h
  unfold bcl
  repeat' split
  all_goals omega
theorem cls_bcl {c : Int} (h4 : cls c ≠ 4) (h5 : cls c ≠ 5) : bcl c = cls c := by
  unfold cls at *
  unfold bcl
  by_cases a : 8294 ≤ c ∧ c ≤ 8296
  · rw [if_pos a] at h4; omega
  rw [if_neg a] at h4 h5 ⊢
  by_cases b : c = 8297
  · rw [if_pos b] at h5; omega
  rw [if_neg b]
theorem bcl_term {c : Int} (h : cls c = 5) : bcl c = 0 := by
  have := (cls_term c).1 h
  simp [termB] at this
  rw [this.2]
  decide
theorem bcl_range (c : Int) : 0 ≤ bcl c ∧ bcl c ≤ 3 := by
  unfold bcl
  repeat' split
  all_goals omega

def its (xs : List Int) : Nat → Nat → Nat → List (Nat × Nat × Int)
  | 0, _, _ => []
  | f + 1, i, b => if i < b then (if initB (xs.getD i 0) then (i, matchV xs i, 0) :: its xs f (matchV xs i + 1) b else (i, i, bcl (xs.getD i 0)) :: its xs f (i + 1) b) else []
/-- The items of a segment: where each begins, where it ends, and its class. -/
def items (xs : List Int) (a b : Nat) : List (Nat × Nat × Int) := its xs (b - a) a b
theorem its_nil (xs : List Int) : ∀ (f i b : Nat), b ≤ i → its xs f i b = []
  | 0, _, _, _ => rfl
  | f + 1, i, b, h => by rw [its, if_neg (by omega)]
theorem its_fuel (xs : List Int) : ∀ (f g i b : Nat), b ≤ xs.length → b - i ≤ f → b - i ≤ g → its xs f i b = its xs g i b
  | 0, g, i, b, _, h, _ => by rw [its_nil xs g i b (by omega), its_nil xs 0 i b (by omega)]
  | f + 1, 0, i, b, _, _, h => by rw [its_nil xs _ i b (by omega), its_nil xs 0 i b (by omega)]
  | f + 1, g + 1, i, b, hb, h, k => by
    rw [its, its]
    by_cases hi : i < b
    · rw [if_pos hi, if_pos hi]
      by_cases hx : initB (xs.getD i 0) = true
      · have := match_ge (xs := xs) (k := i) (by omega) hx
        rw [if_pos hx, if_pos hx, its_fuel xs f g _ b hb (by omega) (by omega)]
      · rw [if_neg hx, if_neg hx, its_fuel xs f g _ b hb (by omega) (by omega)]
    · rw [if_neg hi, if_neg hi]
theorem items_nil {xs : List Int} {a b : Nat} (h : b ≤ a) : items xs a b = [] := its_nil _ _ _ _ h
theorem items_init {xs : List Int} {a b : Nat} (h : a < b) (hb : b ≤ xs.length) (hx : initB (xs.getD a 0) = true) : items xs a b = (a, matchV xs a, 0) :: items xs (matchV xs a + 1) b := by
  have := match_ge (xs := xs) (k := a) (by omega) hx
  unfold items
  rw [show b - a = (b - a - 1) + 1 by omega, its, if_pos h, if_pos hx, its_fuel xs _ (b - (matchV xs a + 1)) _ b hb (by omega) (by omega)]
theorem items_leaf {xs : List Int} {a b : Nat} (h : a < b) (hb : b ≤ xs.length) (hx : ¬ initB (xs.getD a 0) = true) : items xs a b = (a, a, bcl (xs.getD a 0)) :: items xs (a + 1) b := by
  unfold items
  rw [show b - a = (b - a - 1) + 1 by omega, its, if_pos h, if_neg hx, its_fuel xs _ (b - (a + 1)) _ b hb (by omega) (by omega)]
/-- What an item is. -/
def ItOk (xs : List Int) (a b : Nat) (x : Nat × Nat × Int) : Prop := a ≤ x.1 ∧ x.1 < b ∧ 0 ≤ x.2.2 ∧ x.2.2 ≤ 3 ∧ ((x.2.1 = x.1 ∧ initB (xs.getD x.1 0) = false) ∨ (initB (xs.getD x.1 0) = true ∧ x.2.1 = matchV xs x.1 ∧ x.1 < x.2.1 ∧ x.2.1 ≤ xs.length))
theorem items_ok {xs : List Int} {b : Nat} (hb : b ≤ xs.length) : ∀ (m a : Nat), b - a ≤ m → (items xs a b).length ≤ b - a ∧ ∀ x ∈ items xs a b, ItOk xs a b x := by
  intro m
  induction m using Nat.strongRecOn with
  | ind m ih =>
  intro a hm
  by_cases h : a < b
  · by_cases hx : initB (xs.getD a 0) = true
    · have hg := match_ge (xs := xs) (k := a) (by omega) hx
      obtain ⟨h1, h2⟩ := ih (b - (matchV xs a + 1)) (by omega) (matchV xs a + 1) (Nat.le_refl _)
      rw [items_init h hb hx]
      refine ⟨by simp; omega, fun x hm => ?_⟩
      rcases List.mem_cons.1 hm with rfl | hm
      · exact ⟨Nat.le_refl _, h, Int.le_refl 0, (by omega : (0 : Int) ≤ 3), .inr ⟨hx, rfl, by dsimp only; omega, by dsimp only; omega⟩⟩
      · obtain ⟨q1, q2, q3⟩ := h2 x hm
        exact ⟨by omega, q2, q3⟩
    · obtain ⟨h1, h2⟩ := ih (b - (a + 1)) (by omega) (a + 1) (Nat.le_refl _)
      rw [items_leaf h hb hx]
      refine ⟨by simp; omega, fun x hm => ?_⟩
      rcases List.mem_cons.1 hm with rfl | hm
      · exact ⟨Nat.le_refl _, h, (bcl_range _).1, (bcl_range _).2, .inl ⟨rfl, by simpa using hx⟩⟩
      · obtain ⟨q1, q2, q3⟩ := h2 x hm
        exact ⟨by omega, q2, q3⟩
  · rw [items_nil (by omega)]
    exact ⟨by simp, fun x hm => by cases hm⟩

def own (e : Int) : Int := 1 + e % 2
def strong (e d : Int) : Int := if e % 2 = d - 1 then e else e + 1
/-- The directions of items, given the last strong class. -/
def dirs : Int → List Int → List Int
  | _, [] => []
  | last, c :: cs => if c = 1 ∨ c = 2 then c :: dirs c cs else if c = 3 then last :: dirs last cs else 0 :: dirs last cs
def lv1 (e last c : Int) : Int := if c = 1 ∨ c = 2 then strong e c else if last = 2 then e + 2 - e % 2 else strong e last
/-- The levels after the first pass: of neutral items 0. -/
def p1 (e : Int) : Int → List Int → List Int
  | _, [] => []
  | last, c :: cs => if c = 1 ∨ c = 2 then lv1 e last c :: p1 e c cs else if c = 3 then lv1 e last c :: p1 e last cs else 0 :: p1 e last cs
def nxt (e : Int) : Int → List Int → Int
  | _, [] => own e
  | last, c :: cs => if c = 1 ∨ c = 2 then c else if c = 3 then last else nxt e last cs
def lvls (e : Int) : Int → List Int → List Int
  | _, [] => []
  | last, c :: cs => if c = 1 ∨ c = 2 then lv1 e last c :: lvls e c cs else if c = 3 then lv1 e last c :: lvls e last cs
    else (if last = nxt e last cs then strong e last else e) :: lvls e last cs
theorem dirs_len : ∀ (cs : List Int) (last : Int), (dirs last cs).length = cs.length
  | [], _ => rfl
  | c :: cs, last => by
    rw [dirs]
    repeat' split
    all_goals rw [List.length_cons, dirs_len cs, List.length_cons]
theorem p1_len (e : Int) : ∀ (cs : List Int) (last : Int), (p1 e last cs).length = cs.length
  | [], _ => rfl
  | c :: cs, last => by
    rw [p1]
    repeat' split
    all_goals rw [List.length_cons, p1_len e cs, List.length_cons]
theorem lvls_len (e : Int) : ∀ (cs : List Int) (last : Int), (lvls e last cs).length = cs.length
  | [], _ => rfl
  | c :: cs, last => by
    rw [lvls]
    repeat' split
    all_goals rw [List.length_cons, lvls_len e cs, List.length_cons]
/-- The levels of the items of a segment. -/
def itLv (e : Int) (l : List (Nat × Nat × Int)) : List Int := lvls e (own e) (l.map fun x => x.2.2)

/-- The direction of items. -/
def dirI : List Int → Int
  | [] => 0
  | c :: cs => if c = 1 ∨ c = 2 then c else dirI cs
def dirV (xs : List Int) (a b : Nat) : Int := dirI ((items xs a b).map fun x => x.2.2)
/-- The level inside of an isolate. -/
def inner (xs : List Int) (a : Nat) (e : Int) : Int :=
  if xs.getD a 0 = 8295 ∨ (xs.getD a 0 = 8296 ∧ dirV xs (a + 1) (matchV xs a) = 2) then e + 1 + e % 2 else e + 2 - e % 2
/-- The levels that are put, segment by segment. -/
def fillF (xs : List Int) : Nat → Nat → Nat → Int → List Int → List Int
  | 0, _, _, _, L => L
  | f + 1, a, b, e, L => ((items xs a b).zip (itLv e (items xs a b))).foldl (fun L x =>
      if x.1.2.1 = x.1.1 then L.set x.1.1 x.2 else fillF xs f (x.1.1 + 1) x.1.2.1 (inner xs x.1.1 e) ((L.set x.1.1 x.2).set x.1.2.1 x.2)) L
def fillStep (xs : List Int) (f : Nat) (e : Int) (L : List Int) (x : (Nat × Nat × Int) × Int) : List Int :=
  if x.1.2.1 = x.1.1 then L.set x.1.1 x.2 else fillF xs f (x.1.1 + 1) x.1.2.1 (inner xs x.1.1 e) ((L.set x.1.1 x.2).set x.1.2.1 x.2)
theorem fillF_eq (xs : List Int) (f a b : Nat) (e : Int) (L : List Int) : fillF xs (f + 1) a b e L = ((items xs a b).zip (itLv e (items xs a b))).foldl (fillStep xs f e) L := rfl
theorem fillF_len (xs : List Int) : ∀ (f a b : Nat) (e : Int) (L : List Int), (fillF xs f a b e L).length = L.length
  | 0, _, _, _, _ => rfl
  | f + 1, a, b, e, L => by
    rw [fillF_eq]
    generalize (items xs a b).zip (itLv e (items xs a b)) = z
    induction z generalizing L with
    | nil => rfl
    | cons x z ih =>
      rw [List.foldl_cons, ih]
      unfold fillStep
      split
      · simp
      · rw [fillF_len xs f]
        simp
/-- Every isolate that begins in the segment ends in it, or the segment ends the text. -/
def Shut (xs : List Int) (a b : Nat) : Prop := ∀ i, a ≤ i → i < b → initB (xs.getD i 0) = true → matchV xs i < b ∨ b = xs.length
theorem shut_all (xs : List Int) : Shut xs 0 xs.length := fun _ _ _ _ => .inr rfl

/-- Behind an open initiator: the height at an element ahead of the terminator is at least one. -/
theorem mt_inside : ∀ (l : List Int) (h j i : Nat), 1 ≤ h → mt h l = some j → i ≤ j → ∃ h', 1 ≤ h' ∧ mt h' (l.drop i) = some (j - i)
  | [], h, j, i, _, hm, _ => by simp [mt] at hm
  | c :: l, h, j, 0, hh, hm, _ => ⟨h, hh, by simpa using hm⟩
  | c :: l, h, j, i + 1, hh, hm, hi => by
    rw [List.drop_succ_cons]
    unfold mt at hm
    split at hm
    · obtain ⟨q, hq, rfl⟩ := Option.map_eq_some_iff.1 hm
      obtain ⟨h', a1, a2⟩ := mt_inside l (h + 1) q i (by omega) hq (by omega)
      exact ⟨h', a1, by rw [a2]; congr 1; omega⟩
    · split at hm
      · split at hm
        · cases hm; omega
        · obtain ⟨q, hq, rfl⟩ := Option.map_eq_some_iff.1 hm
          obtain ⟨h', a1, a2⟩ := mt_inside l (h - 1) q i (by omega) hq (by omega)
          exact ⟨h', a1, by rw [a2]; congr 1; omega⟩
      · obtain ⟨q, hq, rfl⟩ := Option.map_eq_some_iff.1 hm
        obtain ⟨h', a1, a2⟩ := mt_inside l h q i hh hq (by omega)
        exact ⟨h', a1, by rw [a2]; congr 1; omega⟩
theorem mt_sooner : ∀ (l : List Int) (h j : Nat), 1 ≤ h → mt (h + 1) l = some j → ∃ j', j' < j ∧ mt h l = some j'
  | [], h, j, _, hm => by simp [mt] at hm
  | c :: l, h, j, hh, hm => by
    unfold mt at hm
    unfold mt
    split at hm
    · rename_i hc
      obtain ⟨q, hq, rfl⟩ := Option.map_eq_some_iff.1 hm
      obtain ⟨j', a1, a2⟩ := mt_sooner l (h + 1) q (by omega) hq
      exact ⟨j' + 1, by omega, by rw [if_pos hc, a2]; rfl⟩
    · rename_i hc
      rw [if_neg hc]
      split at hm
      · rename_i ht
        rw [if_pos ht]
        rw [if_neg (by omega)] at hm
        obtain ⟨q, hq, rfl⟩ := Option.map_eq_some_iff.1 hm
        by_cases h1 : h ≤ 1
        · rw [if_pos h1]
          exact ⟨0, by omega, rfl⟩
        · rw [if_neg h1]
          obtain ⟨j', a1, a2⟩ := mt_sooner l (h - 1) q (by omega) (by rw [show h - 1 + 1 = h + 1 - 1 by omega]; exact hq)
          exact ⟨j' + 1, by omega, by rw [a2]; rfl⟩
      · rename_i ht
        rw [if_neg ht]
        obtain ⟨q, hq, rfl⟩ := Option.map_eq_some_iff.1 hm
        obtain ⟨j', a1, a2⟩ := mt_sooner l h q hh hq
        exact ⟨j' + 1, by omega, by rw [a2]; rfl⟩
theorem mt_any_one : ∀ (h : Nat) (l : List Int) (j : Nat), 2 ≤ h → mt h l = some j → ∃ j', j' < j ∧ mt 1 l = some j'
  | 0, _, _, h, _ => by omega
  | 1, _, _, h, _ => by omega
  | 2, l, j, _, hm => mt_sooner l 1 j (by omega) hm
  | h + 3, l, j, _, hm => by
    obtain ⟨j', a1, a2⟩ := mt_sooner l (h + 2) j (by omega) hm
    obtain ⟨j2, b1, b2⟩ := mt_any_one (h + 2) l j' (by omega) a2
    exact ⟨j2, by omega, b2⟩
theorem matchV_init {xs : List Int} {a : Nat} (ha : a < xs.length) (hx : initB (xs.getD a 0) = true) : matchV xs a = match mt 1 (xs.drop (a + 1)) with
  | some j => a + 1 + j
  | none => xs.length := by
  unfold matchV
  rw [drop_one ha, mt, if_pos hx]
  show (match (mt (0 + 1) (xs.drop (a + 1))).map (· + 1) with | some j => a + j | none => xs.length) = _
  cases mt (0 + 1) (xs.drop (a + 1)) with
  | none => rfl
  | some j => show a + (j + 1) = a + 1 + j; omega
theorem shut_inside {xs : List Int} {a : Nat} (ha : a < xs.length) (hx : initB (xs.getD a 0) = true) : Shut xs (a + 1) (matchV xs a) := by
  intro i h1 h2 hi
  rw [matchV_init ha hx] at h2 ⊢
  cases hm : mt 1 (xs.drop (a + 1)) with
  | none => exact .inr rfl
  | some j =>
    rw [hm] at h2
    have h2 : i < a + 1 + j := h2
    left
    show matchV xs i < a + 1 + j
    have hjl := (mt_some _ 0 0 j hm).1
    rw [List.length_drop] at hjl
    have hil : i < xs.length := by omega
    obtain ⟨h', b1, b2⟩ := mt_inside _ 1 j (i - (a + 1)) (by omega) hm (by omega)
    rw [List.drop_drop, show a + 1 + (i - (a + 1)) = i by omega, drop_one hil, mt, if_pos hi] at b2
    obtain ⟨q, hq, hq2⟩ := Option.map_eq_some_iff.1 b2
    obtain ⟨j', c1, c2⟩ := mt_any_one (h' + 1) _ q (by omega) hq
    rw [matchV_init hil hi, c2]
    show i + 1 + j' < a + 1 + j
    omega
theorem shut_after {xs : List Int} {a a' b : Nat} (h : Shut xs a b) (ha : a ≤ a') : Shut xs a' b := fun i h1 h2 h3 => h i (by omega) h2 h3
end Go.Proofs.Ytgefbagojghmeaa
