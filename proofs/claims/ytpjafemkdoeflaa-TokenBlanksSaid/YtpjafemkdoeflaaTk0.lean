/-
  Tokens of a text, without the program.
-/
import Derived.Lib.ValidLaws
namespace Go.Proofs.Ytpjafemkdoeflaa

abbrev By := List UInt8
def spI (n : Int) : Bool := decide (n = 123 ∨ n = 125 ∨ n = 60 ∨ n = 62 ∨ n = 35 ∨ n = 92)
def loI (n : Int) : Bool := decide (97 ≤ n ∧ n ≤ 122)
def ltI (n : Int) : Bool := decide ((97 ≤ n ∧ n ≤ 122) ∨ (65 ≤ n ∧ n ≤ 90))
def ldI (n : Int) : Bool := decide ((97 ≤ n ∧ n ≤ 122) ∨ (65 ≤ n ∧ n ≤ 90) ∨ (48 ≤ n ∧ n ≤ 57))
def inI (n : Int) : Bool := decide ((97 ≤ n ∧ n ≤ 122) ∨ (65 ≤ n ∧ n ≤ 90) ∨ (48 ≤ n ∧ n ≤ 57) ∨ n = 95 ∨ n = 45)
def wdI (n : Int) : Bool := decide ((97 ≤ n ∧ n ≤ 122) ∨ (65 ≤ n ∧ n ≤ 90) ∨ (48 ≤ n ∧ n ≤ 57) ∨ n = 95 ∨ n = 45 ∨ n = 46 ∨ n = 61)
def blI (n : Int) : Bool := decide (n = 32 ∨ n = 9 ∨ n = 10)
def spB (c : UInt8) : Bool := spI c.toNat
def loB (c : UInt8) : Bool := loI c.toNat
def inB (c : UInt8) : Bool := inI c.toNat
def wdB (c : UInt8) : Bool := wdI c.toNat
def blB (c : UInt8) : Bool := blI c.toNat

/-- How many bytes belong to a text. -/
def plainN : By → Nat
  | [] => 0
  | [c] => if spB c then 0 else 1
  | c :: d :: l => if spB c then (if c = 92 ∧ spB d = true then plainN l + 2 else 0) else plainN (d :: l) + 1
theorem plainN_not {c : UInt8} {l : By} (h : spB c = false) : plainN (c :: l) = plainN l + 1 := by
  cases l with
  | nil => simp [plainN, h]
  | cons d l => rw [plainN, h]; rfl
theorem plainN_esc {d : UInt8} {l : By} (h : spB d = true) : plainN (92 :: d :: l) = plainN l + 2 := by
  rw [plainN, if_pos (by decide), if_pos ⟨rfl, h⟩]
theorem plainN_sp {c : UInt8} {l : By} (h : spB c = true) (hc : c ≠ 92 ∨ l = [] ∨ ∃ d r, l = d :: r ∧ spB d = false) : plainN (c :: l) = 0 := by
  cases l with
  | nil => simp [plainN, h]
  | cons d l =>
    rw [plainN, if_pos h, if_neg]
    rintro ⟨h1, h2⟩
    rcases hc with hc | hc | ⟨d', r, hc, h3⟩
    · exact hc h1
    · cases hc
    · cases hc
      rw [h2] at h3
      cases h3
/-- The ways in which a text goes on. -/
theorem plainN_ways (c : UInt8) (l : By) : (spB c = false ∧ plainN (c :: l) = plainN l + 1) ∨ (c = 92 ∧ ∃ d r, l = d :: r ∧ spB d = true ∧ plainN (c :: l) = plainN r + 2) ∨ (spB c = true ∧ (c ≠ 92 ∨ l = [] ∨ ∃ d r, l = d :: r ∧ spB d = false) ∧ plainN (c :: l) = 0) := by
  cases h : spB c with
  | false => exact .inl ⟨rfl, plainN_not h⟩
  | true =>
    by_cases h9 : c = 92
    · cases l with
      | nil => exact .inr (.inr ⟨rfl, .inr (.inl rfl), plainN_sp h (.inr (.inl rfl))⟩)
      | cons d r =>
        cases hd : spB d with
        | false => exact .inr (.inr ⟨rfl, .inr (.inr ⟨d, r, rfl, hd⟩), plainN_sp h (.inr (.inr ⟨d, r, rfl, hd⟩))⟩)
        | true => exact .inr (.inl ⟨h9, d, r, rfl, hd, by rw [h9]; exact plainN_esc hd⟩)
    · exact .inr (.inr ⟨rfl, .inl h9, plainN_sp h (.inl h9)⟩)
theorem plainN_ind {P : By → Prop} (nil : P []) (one : ∀ c l, spB c = false → P l → P (c :: l)) (two : ∀ d l, spB d = true → P l → P (92 :: d :: l)) (stop : ∀ c l, spB c = true → plainN (c :: l) = 0 → P (c :: l)) : ∀ (n : Nat) (l : By), l.length ≤ n → P l
  | 0, l, h => by
    have : l = [] := List.eq_nil_of_length_eq_zero (by omega)
    subst this
    exact nil
  | n + 1, [], _ => nil
  | n + 1, c :: l, h => by
    have h : l.length ≤ n := by simpa using h
    rcases plainN_ways c l with ⟨a, _⟩ | ⟨rfl, d, r, rfl, a, _⟩ | ⟨a, _, b⟩
    · exact one c l a (plainN_ind nil one two stop n l h)
    · exact two d r a (plainN_ind nil one two stop n r (by simp at h; omega))
    · exact stop c l a b
theorem plainN_le (l : By) : plainN l ≤ l.length := by
  refine plainN_ind (P := fun l => plainN l ≤ l.length) (by simp [plainN]) ?_ ?_ ?_ l.length l (Nat.le_refl _)
  · intro c l h ih
    rw [plainN_not h]; simpa using ih
  · intro d l h ih
    rw [plainN_esc h]; simpa using ih
  · intro c l _ h
    rw [h]; exact Nat.zero_le _
/-- Behind a text no text begins. -/
theorem plainN_max (l : By) : plainN (l.drop (plainN l)) = 0 := by
  refine plainN_ind (P := fun l => plainN (l.drop (plainN l)) = 0) (by simp [plainN]) ?_ ?_ ?_ l.length l (Nat.le_refl _)
  · intro c l h ih
    rw [plainN_not h]; simpa using ih
  · intro d l h ih
    rw [plainN_esc h]; simpa using ih
  · intro c l _ h
    rw [h]; simpa using h
theorem plainN_app (l t : By) (h : plainN l = l.length) : plainN (l ++ t) = l.length + plainN t := by
  refine plainN_ind (P := fun l => plainN l = l.length → plainN (l ++ t) = l.length + plainN t) (by simp) ?_ ?_ ?_ l.length l (Nat.le_refl _) h
  · intro c l h ih hp
    rw [plainN_not h] at hp
    rw [List.cons_append, plainN_not h, ih (by simpa using hp)]
    simp; omega
  · intro d l h ih hp
    rw [plainN_esc h] at hp
    rw [List.cons_append, List.cons_append, plainN_esc h, ih (by simpa using hp)]
    simp; omega
  · intro c l _ h hp
    rw [h] at hp
    simp at hp
theorem plainN_less (l t : By) (h : plainN l < l.length) (hd : l.drop (plainN l) ≠ [92]) : plainN (l ++ t) = plainN l := by
  refine plainN_ind (P := fun l => plainN l < l.length → l.drop (plainN l) ≠ [92] → plainN (l ++ t) = plainN l) (by simp) ?_ ?_ ?_ l.length l (Nat.le_refl _) h hd
  · intro c l h ih hp hd
    rw [plainN_not h] at hp hd
    rw [List.cons_append, plainN_not h, plainN_not h, ih (by simpa using hp) (by simpa using hd)]
  · intro d l h ih hp hd
    rw [plainN_esc h] at hp hd
    rw [List.cons_append, List.cons_append, plainN_esc h, plainN_esc h, ih (by simpa using hp) (by simpa using hd)]
  · intro c l hs h _ hd
    rw [h] at hd
    rw [List.drop_zero] at hd
    rw [h, List.cons_append]
    rcases plainN_ways c l with ⟨a, _⟩ | ⟨rfl, d, r, rfl, a, b⟩ | ⟨_, a, _⟩
    · rw [hs] at a; cases a
    · rw [h] at b; omega
    · refine plainN_sp hs ?_
      rcases a with a | a | ⟨d, r, rfl, hd'⟩
      · exact .inl a
      · by_cases h9 : c = 92
        · rw [h9, a] at hd
          exact absurd rfl hd
        · exact .inl h9
      · exact .inr (.inr ⟨d, r ++ t, rfl, hd'⟩)
theorem plainN_take (l : By) : plainN (l.take (plainN l)) = plainN l := by
  refine plainN_ind (P := fun l => plainN (l.take (plainN l)) = plainN l) (by simp [plainN]) ?_ ?_ ?_ l.length l (Nat.le_refl _)
  · intro c l h ih
    rw [plainN_not h, List.take_succ_cons, plainN_not h, ih]
  · intro d l h ih
    rw [plainN_esc h, List.take_succ_cons, List.take_succ_cons, plainN_esc h, ih]
  · intro c l _ h
    rw [h]; simp [plainN]

/-- Whether a string is a name. -/
def nameB (l : By) : Bool := decide (1 ≤ l.length ∧ l.length ≤ 40) && loB (l.getD 0 0) && l.all inB
theorem nameB_all {l : By} (h : nameB l = true) : ∀ x ∈ l, inB x = true := by
  unfold nameB at h
  simp only [Bool.and_eq_true] at h
  exact List.all_eq_true.1 h.2
theorem in_62 : inB 62 = false := by decide
theorem in_47 : inB 47 = false := by decide
theorem tw_app {p : UInt8 → Bool} : ∀ (a r : By), (∀ x ∈ a, p x = true) → (r = [] ∨ ∃ b s, r = b :: s ∧ p b = false) → (a ++ r).takeWhile p = a
  | [], r, _, hr => by
    rcases hr with rfl | ⟨b, s, rfl, hb⟩
    · rfl
    · rw [List.nil_append, List.takeWhile_cons_of_neg (by rw [hb]; decide)]
  | x :: a, r, h, hr => by
    rw [List.cons_append, List.takeWhile_cons_of_pos (h x (List.mem_cons_self ..)), tw_app a r (fun y hy => h y (List.mem_cons_of_mem _ hy)) hr]
theorem tw_split {p : UInt8 → Bool} (l : By) : l.takeWhile p ++ l.drop (l.takeWhile p).length = l ∧ (∀ x ∈ l.takeWhile p, p x = true) ∧ (l.drop (l.takeWhile p).length = [] ∨ ∃ b s, l.drop (l.takeWhile p).length = b :: s ∧ p b = false) := by
  induction l with
  | nil => exact ⟨rfl, by simp, .inl rfl⟩
  | cons x l ih =>
    cases hx : p x with
    | true =>
      rw [List.takeWhile_cons_of_pos hx]
      obtain ⟨a, b, c⟩ := ih
      refine ⟨by rw [List.length_cons, List.drop_succ_cons, List.cons_append, a], ?_, by rw [List.length_cons, List.drop_succ_cons]; exact c⟩
      intro y hy
      rcases List.mem_cons.1 hy with rfl | hy
      · exact hx
      · exact b y hy
    | false =>
      rw [List.takeWhile_cons_of_neg (by rw [hx]; decide)]
      exact ⟨rfl, by simp, .inr ⟨x, l, rfl, hx⟩⟩
theorem first_eq {q : UInt8} : ∀ (a b r s : By), q ∉ a → q ∉ b → a ++ q :: r = b ++ q :: s → a = b
  | [], [], _, _, _, _, _ => rfl
  | [], y :: b, r, s, _, hb, h => by
    rw [List.nil_append, List.cons_append] at h
    injection h with h1 _
    exact absurd (h1 ▸ List.mem_cons_self ..) hb
  | x :: a, [], r, s, ha, _, h => by
    rw [List.nil_append, List.cons_append] at h
    injection h with h1 _
    exact absurd (h1 ▸ List.mem_cons_self ..) ha
  | x :: a, y :: b, r, s, ha, hb, h => by
    rw [List.cons_append, List.cons_append] at h
    injection h with h1 h2
    rw [h1, first_eq a b r s (fun m => ha (List.mem_cons_of_mem _ m)) (fun m => hb (List.mem_cons_of_mem _ m)) h2]

/-- What stands behind an open angle: a name with its marks. -/
inductive IsEl : By → Nat → By → Nat → Prop
  | start (n rest : By) (h : nameB n = true) : IsEl (n ++ 62 :: rest) 5 n (n.length + 2)
  | fin (n rest : By) (h : nameB n = true) : IsEl (47 :: (n ++ 62 :: rest)) 6 n (n.length + 3)
  | empty (n rest : By) (h : nameB n = true) : IsEl (n ++ 47 :: 62 :: rest) 7 n (n.length + 3)
theorem no62 {n : By} (h : nameB n = true) : (62 : UInt8) ∉ n := fun m => by have := nameB_all h _ m; rw [in_62] at this; cases this
theorem no47 {n : By} (h : nameB n = true) : (47 : UInt8) ∉ n := fun m => by have := nameB_all h _ m; rw [in_47] at this; cases this
theorem IsEl.fun {r : By} {k n sz k' n' sz'} (h : IsEl r k n sz) (h' : IsEl r k' n' sz') : k = k' ∧ n = n' ∧ sz = sz' := by
  have hd : ∀ {n : By} {c : UInt8} {x : By} {y : By}, nameB n = true → c ≠ 47 → n ++ c :: x ≠ 47 :: y := by
    intro n c x y hn hc e
    cases n with
    | nil => injection e with e1 _; exact hc e1
    | cons z n => injection e with e1 _; exact no47 hn (e1 ▸ List.mem_cons_self ..)
  have hd2 : ∀ {n : By} {x : By} {y : By}, nameB n = true → n ++ 47 :: x ≠ 47 :: y := by
    intro n x y hn e
    cases n with
    | nil => simp [nameB] at hn
    | cons z n => injection e with e1 _; exact no47 hn (e1 ▸ List.mem_cons_self ..)
  obtain ⟨s, hs⟩ : ∃ s, s = r := ⟨r, rfl⟩
  rw [← hs] at h'
  cases h with
  | start n rest hn =>
    cases h' with
    | start n' rest' hn' => obtain rfl := first_eq _ _ _ _ (no62 hn') (no62 hn) hs; exact ⟨rfl, rfl, rfl⟩
    | fin n' rest' hn' => exact absurd hs.symm (hd hn (by decide))
    | empty n' rest' hn' =>
      have e : (n' ++ [47]) ++ 62 :: rest' = n ++ 62 :: rest := by simpa using hs
      have := first_eq _ _ _ _ (by intro m; rcases List.mem_append.1 m with m | m; exact no62 hn' m; simp at m) (no62 hn) e
      exact absurd (this ▸ List.mem_append.2 (.inr (List.mem_singleton.2 rfl))) (no47 hn)
  | fin n rest hn =>
    cases h' with
    | start n' rest' hn' => exact absurd hs (hd hn' (by decide))
    | fin n' rest' hn' =>
      injection hs with _ hs
      obtain rfl := first_eq _ _ _ _ (no62 hn') (no62 hn) hs; exact ⟨rfl, rfl, rfl⟩
    | empty n' rest' hn' => exact absurd hs (hd2 hn')
  | empty n rest hn =>
    cases h' with
    | start n' rest' hn' =>
      have e : (n ++ [47]) ++ 62 :: rest = n' ++ 62 :: rest' := by simpa using hs.symm
      have := first_eq _ _ _ _ (by intro m; rcases List.mem_append.1 m with m | m; exact no62 hn m; simp at m) (no62 hn') e
      exact absurd (this ▸ List.mem_append.2 (.inr (List.mem_singleton.2 rfl))) (no47 hn')
    | fin n' rest' hn' => exact absurd hs.symm (hd2 hn)
    | empty n' rest' hn' =>
      obtain rfl := first_eq _ _ _ _ (no47 hn') (no47 hn) hs; exact ⟨rfl, rfl, rfl⟩
theorem IsEl.app {r : By} {k n sz} (h : IsEl r k n sz) (t : By) : IsEl (r ++ t) k n sz := by
  cases h with
  | start n rest hn => have := IsEl.start n (rest ++ t) hn; simpa using this
  | fin n rest hn => have := IsEl.fin n (rest ++ t) hn; simpa using this
  | empty n rest hn => have := IsEl.empty n (rest ++ t) hn; simpa using this
theorem IsEl.size {r : By} {k n sz} (h : IsEl r k n sz) : sz ≤ r.length + 1 ∧ 2 ≤ sz ∧ 5 ≤ k ∧ k ≤ 7 := by
  cases h <;> simp <;> omega
theorem IsEl.cut {r : By} {k n sz} (h : IsEl r k n sz) : IsEl (r.take (sz - 1)) k n sz := by
  cases h with
  | start n rest hn =>
    have := IsEl.start n [] hn
    have e : (n ++ 62 :: rest).take (n.length + 2 - 1) = n ++ [62] := by
      rw [show n ++ 62 :: rest = (n ++ [62]) ++ rest by simp, show n.length + 2 - 1 = (n ++ [62]).length by simp, List.take_left]
    rw [e]; exact this
  | fin n rest hn =>
    have := IsEl.fin n [] hn
    have e : (47 :: (n ++ 62 :: rest)).take (n.length + 3 - 1) = 47 :: (n ++ [62]) := by
      rw [show 47 :: (n ++ 62 :: rest) = (47 :: (n ++ [62])) ++ rest by simp, show n.length + 3 - 1 = (47 :: (n ++ [62])).length by simp, List.take_left]
    rw [e]; exact this
  | empty n rest hn =>
    have := IsEl.empty n [] hn
    have e : (n ++ 47 :: 62 :: rest).take (n.length + 3 - 1) = n ++ [47, 62] := by
      rw [show n ++ 47 :: 62 :: rest = (n ++ [47, 62]) ++ rest by simp, show n.length + 3 - 1 = (n ++ [47, 62]).length by simp, List.take_left]
    rw [e]; exact this
/-- The element, as the reference finds it. -/
def elemT (r : By) : Option (Nat × By × Nat) :=
  if r.head? = some 47 then
    (if nameB (r.tail.takeWhile inB) = true ∧ (r.tail.drop (r.tail.takeWhile inB).length).head? = some 62 then some (6, r.tail.takeWhile inB, (r.tail.takeWhile inB).length + 3) else none)
  else if nameB (r.takeWhile inB) = true then
    (if (r.drop (r.takeWhile inB).length).head? = some 62 then some (5, r.takeWhile inB, (r.takeWhile inB).length + 2)
     else if (r.drop (r.takeWhile inB).length).head? = some 47 ∧ (r.drop ((r.takeWhile inB).length + 1)).head? = some 62 then some (7, r.takeWhile inB, (r.takeWhile inB).length + 3) else none)
  else none
theorem head_cons {l : By} {c : UInt8} (h : l.head? = some c) : l = c :: l.tail := by
  cases l with
  | nil => cases h
  | cons x l => cases h; rfl
theorem elemT_some {r : By} {k n sz} (h : elemT r = some (k, n, sz)) : IsEl r k n sz := by
  unfold elemT at h
  split at h
  · rename_i h47
    split at h
    · rename_i hc
      obtain ⟨h1, h2⟩ := hc
      cases h
      have e1 := (tw_split (p := inB) r.tail).1
      rw [head_cons h2] at e1
      rw [head_cons h47]
      have := IsEl.fin (r.tail.takeWhile inB) (r.tail.drop (r.tail.takeWhile inB).length).tail h1
      rw [e1] at this
      exact this
    · cases h
  · split at h
    · rename_i h1
      have e1 := (tw_split (p := inB) r).1
      split at h
      · rename_i h2
        cases h
        have := IsEl.start (r.takeWhile inB) (r.drop (r.takeWhile inB).length).tail h1
        rw [← head_cons h2, e1] at this
        exact this
      · split at h
        · rename_i h2
          obtain ⟨h2, h3⟩ := h2
          cases h
          have := IsEl.empty (r.takeWhile inB) (r.drop ((r.takeWhile inB).length + 1)).tail h1
          rw [← head_cons h3] at this
          have e2 : (47 : UInt8) :: r.drop ((r.takeWhile inB).length + 1) = r.drop (r.takeWhile inB).length := by
            rw [head_cons h2, ← List.drop_one, List.drop_drop]
          rw [e2, e1] at this
          exact this
        · cases h
    · cases h
theorem elemT_of {r : By} {k n sz} (h : IsEl r k n sz) : elemT r = some (k, n, sz) := by
  have ho : elemT r ≠ none → elemT r = some (k, n, sz) := by
    intro hne
    obtain ⟨⟨k', n', sz'⟩, h'⟩ := Option.ne_none_iff_exists'.1 hne
    obtain ⟨rfl, rfl, rfl⟩ := h.fun (elemT_some h')
    exact h'
  refine ho ?_
  unfold elemT
  cases h with
  | start n rest hn =>
    have e : (n ++ 62 :: rest).takeWhile inB = n := tw_app n _ (nameB_all hn) (.inr ⟨62, rest, rfl, in_62⟩)
    have hh : ¬ (n ++ 62 :: rest).head? = some 47 := by
      intro h
      have := head_cons h
      cases n with
      | nil => simp [nameB] at hn
      | cons z n => injection this with e1 _; exact no47 hn (e1 ▸ List.mem_cons_self ..)
    rw [if_neg hh, e, if_pos hn, if_pos (by rw [List.drop_left]; rfl)]
    simp
  | fin n rest hn =>
    have e : (n ++ 62 :: rest).takeWhile inB = n := tw_app n _ (nameB_all hn) (.inr ⟨62, rest, rfl, in_62⟩)
    rw [if_pos (show (47 :: (n ++ 62 :: rest) : By).head? = some 47 from rfl), List.tail_cons, e, if_pos ⟨hn, by rw [List.drop_left]; rfl⟩]
    simp
  | empty n rest hn =>
    have e : (n ++ 47 :: 62 :: rest).takeWhile inB = n := tw_app n _ (nameB_all hn) (.inr ⟨47, 62 :: rest, rfl, in_47⟩)
    have hh : ¬ (n ++ 47 :: 62 :: rest).head? = some 47 := by
      intro h
      have := head_cons h
      cases n with
      | nil => simp [nameB] at hn
      | cons z n => injection this with e1 _; exact no47 hn (e1 ▸ List.mem_cons_self ..)
    have e2 : (n ++ 47 :: 62 :: rest).drop (n.length + 1) = 62 :: rest := by rw [← List.drop_drop, List.drop_left]; rfl
    rw [if_neg hh, e, if_pos hn, if_neg (by rw [List.drop_left]; simp), if_pos ⟨by rw [List.drop_left]; rfl, by rw [e2]; rfl⟩]
    simp
theorem elemT_none {r : By} (h : ∀ k n sz, ¬ IsEl r k n sz) : elemT r = none := by
  cases he : elemT r with
  | none => rfl
  | some x => exact absurd (elemT_some he) (h _ _ _)
/-- The element, as the program finds it. -/
def elemP (r : By) : Option (Nat × By × Nat) :=
  let nm := r.takeWhile (· != 62)
  if nm.length = r.length then none
  else if nm.head? = some 47 then (if nameB nm.tail = true then some (6, nm.tail, nm.length + 2) else none)
  else if nm.getLast? = some 47 then (if nameB nm.dropLast = true then some (7, nm.dropLast, nm.length + 2) else none)
  else if nameB nm = true then some (5, nm, nm.length + 2) else none
theorem last_split {l : By} {c : UInt8} (h : l.getLast? = some c) : l = l.dropLast ++ [c] := by
  have hne : l ≠ [] := by intro e; rw [e] at h; cases h
  have := List.dropLast_concat_getLast hne
  rw [List.getLast?_eq_some_getLast hne] at h
  cases h
  exact this.symm
theorem elemP_eq (r : By) : elemP r = elemT r := by
  have hs := tw_split (p := (· != (62 : UInt8))) r
  obtain ⟨nm, hnm⟩ : ∃ nm, r.takeWhile (· != 62) = nm := ⟨_, rfl⟩
  unfold elemP
  rw [hnm] at hs ⊢
  obtain ⟨s1, s2, s3⟩ := hs
  have hno : (62 : UInt8) ∉ nm := fun m => by have := s2 _ m; simp at this
  dsimp only
  by_cases hl : nm.length = r.length
  · rw [if_pos hl]
    rw [hl, List.drop_length, List.append_nil] at s1
    rw [s1] at hno
    symm
    refine elemT_none fun k n sz h => ?_
    cases h <;> exact hno (by simp)
  · rw [if_neg hl]
    rcases s3 with s3 | ⟨b, rest, s3, hb⟩
    · rw [s3, List.append_nil] at s1
      exact absurd (congrArg List.length s1) hl
    have hb : b = 62 := by simpa using hb
    rw [s3, hb] at s1
    by_cases h47 : nm.head? = some 47
    · rw [if_pos h47]
      have e := head_cons h47
      obtain ⟨m, hm⟩ : ∃ m, nm.tail = m := ⟨_, rfl⟩
      rw [hm] at e ⊢
      rw [e] at s1
      split
      · rename_i hn
        rw [← s1, e]
        exact (elemT_of (.fin m rest hn)).symm
      · rename_i hn
        symm
        refine elemT_none fun k n sz h => ?_
        rw [← s1] at h
        obtain ⟨q, hq⟩ : ∃ q, q = (47 :: m) ++ 62 :: rest := ⟨_, rfl⟩
        rw [← hq] at h
        have hmo : (62 : UInt8) ∉ m := fun x => hno (e ▸ List.mem_cons_of_mem _ x)
        have h47no : (62 : UInt8) ∉ (47 :: m : By) := by rw [← e]; exact hno
        cases h with
        | start n rest' h =>
          have := first_eq _ _ _ _ (no62 h) h47no hq
          exact no47 h (this ▸ List.mem_cons_self ..)
        | fin n rest' h =>
          have : (47 :: n) = (47 :: m) := first_eq (47 :: n) (47 :: m) rest' rest (by intro x; rcases List.mem_cons.1 x with x | x; cases x; exact no62 h x) h47no hq
          injection this with _ this
          exact hn (this ▸ h)
        | empty n rest' h =>
          have := first_eq (n ++ [47]) (47 :: m) rest' rest (by intro x; rcases List.mem_append.1 x with x | x; exact no62 h x; simp at x) h47no (by simpa using hq)
          cases n with
          | nil => simp [nameB] at h
          | cons z n => injection this with e1 _; exact no47 h (e1 ▸ List.mem_cons_self ..)
    · rw [if_neg h47]
      have hne47 : ∀ m : By, nm ≠ 47 :: m := fun m e => h47 (by rw [e]; rfl)
      by_cases hlast : nm.getLast? = some 47
      · rw [if_pos hlast]
        have e := last_split hlast
        obtain ⟨m, hm⟩ : ∃ m, nm.dropLast = m := ⟨_, rfl⟩
        rw [hm] at e ⊢
        have hml : nm.length = m.length + 1 := by rw [e]; simp
        split
        · rename_i hn
          have := elemT_of (.empty m rest hn)
          rw [show m ++ 47 :: 62 :: rest = r by rw [← s1, e]; simp] at this
          rw [this, hml]
        · rename_i hn
          symm
          refine elemT_none fun k n sz h => ?_
          obtain ⟨q, hq⟩ : ∃ q, q = r := ⟨_, rfl⟩
          rw [← hq] at h
          rw [← s1] at hq
          cases h with
          | start n rest' h =>
            have := first_eq _ _ _ _ (no62 h) hno hq
            exact no47 h (this ▸ e ▸ List.mem_append.2 (.inr (List.mem_singleton.2 rfl)))
          | fin n rest' h =>
            have := first_eq (47 :: n) nm rest' rest (by intro x; rcases List.mem_cons.1 x with x | x; cases x; exact no62 h x) hno hq
            exact hne47 _ this.symm
          | empty n rest' h =>
            have := first_eq (n ++ [47]) nm rest' rest (by intro x; rcases List.mem_append.1 x with x | x; exact no62 h x; simp at x) hno (by simpa using hq)
            rw [e] at this
            exact hn (List.append_cancel_right this ▸ h)
      · rw [if_neg hlast]
        split
        · rename_i hn
          have := elemT_of (.start nm rest hn)
          rw [s1] at this
          exact this.symm
        · rename_i hn
          symm
          refine elemT_none fun k n sz h => ?_
          obtain ⟨q, hq⟩ : ∃ q, q = r := ⟨_, rfl⟩
          rw [← hq] at h
          rw [← s1] at hq
          cases h with
          | start n rest' h => exact hn (first_eq _ _ _ _ (no62 h) hno hq ▸ h)
          | fin n rest' h =>
            have := first_eq (47 :: n) nm rest' rest (by intro x; rcases List.mem_cons.1 x with x | x; cases x; exact no62 h x) hno hq
            exact hne47 _ this.symm
          | empty n rest' h =>
            have := first_eq (n ++ [47]) nm rest' rest (by intro x; rcases List.mem_append.1 x with x | x; exact no62 h x; simp at x) hno (by simpa using hq)
            exact hlast (by rw [← this]; simp)

/-- The first token: its kind, text and size. -/
def tok1 (br : Bool) (l : By) : Option (Nat × By × Nat) :=
  match l with
  | [] => none
  | c :: r => if c = 123 then some (2, [c], 1) else if c = 125 then some (3, [c], 1)
    else if br = true then (if c = 44 then some (8, [c], 1) else if (c :: r).takeWhile wdB = [] then none else some (9, (c :: r).takeWhile wdB, ((c :: r).takeWhile wdB).length))
    else if c = 35 then some (4, [c], 1) else if c = 60 then elemT r else if plainN (c :: r) = 0 then none else some (1, (c :: r).take (plainN (c :: r)), plainN (c :: r))
abbrev Tok := Nat × By × Nat × Nat
def newD (k d : Nat) : Nat := if k = 2 then d + 1 else if k = 3 then d - 1 else d
/-- The tokens from a place on, and the place of an error. -/
def toksF : Nat → By → Nat → Nat → List Tok × Option Nat
  | 0, _, at', _ => ([], some at')
  | _ + 1, [], at', d => ([], if d = 0 then none else some at')
  | f + 1, c :: r, at', d =>
    if d % 2 = 1 ∧ blB c = true then toksF f r (at' + 1) d
    else match tok1 (decide (d % 2 = 1)) (c :: r) with
      | none => ([], some at')
      | some (k, t, n) => if k = 3 ∧ d = 0 then ([], some at') else
        ((k, t, at', at' + n) :: (toksF f ((c :: r).drop n) (at' + n) (newD k d)).1, (toksF f ((c :: r).drop n) (at' + n) (newD k d)).2)
theorem tok1_size {br : Bool} {l : By} {k t n} (h : tok1 br l = some (k, t, n)) : 1 ≤ n ∧ n ≤ l.length := by
  cases l with
  | nil => cases h
  | cons c r =>
    unfold tok1 at h
    dsimp only at h
    have hw := (tw_split (p := wdB) (c :: r)).1
    have hwl := congrArg List.length hw
    rw [List.length_append] at hwl
    have hp := plainN_le (c :: r)
    repeat' split at h
    all_goals first
      | (cases h; done)
      | (have he := (elemT_some h).size; simp; omega)
      | skip
    all_goals
      simp only [Option.some.injEq, Prod.mk.injEq] at h
      obtain ⟨rfl, rfl, rfl⟩ := h
    all_goals first
      | (simp; done)
      | (rename_i hh
         have := List.length_pos_iff.2 hh
         omega)
      | omega
theorem toksF_fuel : ∀ (f g : Nat) (l : By) (a d : Nat), l.length < f → l.length < g → toksF f l a d = toksF g l a d
  | 0, _, _, _, _, h, _ => by omega
  | _ + 1, 0, _, _, _, _, h => by omega
  | f + 1, g + 1, [], _, _, _, _ => rfl
  | f + 1, g + 1, c :: r, a, d, hf, hg => by
    simp only [List.length_cons] at hf hg
    rw [toksF, toksF]
    split
    · exact toksF_fuel f g r _ _ (by omega) (by omega)
    · cases ht : tok1 (decide (d % 2 = 1)) (c :: r) with
      | none => rfl
      | some x =>
        obtain ⟨k, t, n⟩ := x
        dsimp only
        have hn := tok1_size ht
        simp only [List.length_cons] at hn
        rw [toksF_fuel f g ((c :: r).drop n) _ _ (by rw [List.length_drop, List.length_cons]; omega) (by rw [List.length_drop, List.length_cons]; omega)]
/-- The tokens of a text. -/
def toks (l : By) : List Tok × Option Nat := toksF (l.length + 1) l 0 0
def toksAt (l : By) (a d : Nat) : List Tok × Option Nat := toksF (l.length + 1) l a d
theorem toksAt_nil (a d : Nat) : toksAt [] a d = ([], if d = 0 then none else some a) := rfl
theorem toksAt_blank {c : UInt8} {r : By} {a d : Nat} (hd : d % 2 = 1) (hb : blB c = true) : toksAt (c :: r) a d = toksAt r (a + 1) d := by
  unfold toksAt
  rw [List.length_cons, toksF, if_pos ⟨hd, hb⟩]
theorem toksAt_none {c : UInt8} {r : By} {a d : Nat} (hb : ¬ (d % 2 = 1 ∧ blB c = true)) (ht : tok1 (decide (d % 2 = 1)) (c :: r) = none) : toksAt (c :: r) a d = ([], some a) := by
  unfold toksAt
  rw [List.length_cons, toksF, if_neg hb, ht]
theorem toksAt_shut {c : UInt8} {r : By} {a : Nat} {t : By} {n : Nat} (ht : tok1 false (c :: r) = some (3, t, n)) : toksAt (c :: r) a 0 = ([], some a) := by
  unfold toksAt
  rw [List.length_cons, toksF, if_neg (by simp)]
  have : decide (0 % 2 = 1) = false := rfl
  rw [this, ht]
  dsimp only
  rw [if_pos ⟨rfl, rfl⟩]
theorem toksAt_some {c : UInt8} {r : By} {a d : Nat} {k : Nat} {t : By} {n : Nat} (hb : ¬ (d % 2 = 1 ∧ blB c = true)) (ht : tok1 (decide (d % 2 = 1)) (c :: r) = some (k, t, n)) (hk : ¬ (k = 3 ∧ d = 0)) :
    toksAt (c :: r) a d = ((k, t, a, a + n) :: (toksAt ((c :: r).drop n) (a + n) (newD k d)).1, (toksAt ((c :: r).drop n) (a + n) (newD k d)).2) := by
  have hn := tok1_size ht
  unfold toksAt
  rw [List.length_cons, toksF, if_neg hb, ht]
  dsimp only
  rw [if_neg hk]
  have hfu := toksF_fuel (r.length + 1) (((c :: r).drop n).length + 1) ((c :: r).drop n) (a + n) (newD k d) (by rw [List.length_drop, List.length_cons]; omega) (by omega)
  rw [hfu]
theorem toks_at (l : By) : toks l = toksAt l 0 0 := rfl
end Go.Proofs.Ytpjafemkdoeflaa
