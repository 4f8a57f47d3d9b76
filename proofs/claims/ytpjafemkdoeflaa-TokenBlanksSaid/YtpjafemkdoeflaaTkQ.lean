/-
  What the laws of tokens ask, without the program: places, joined texts, blanks between tokens.
-/
import Derived.Test.YtpjafemkdoeflaaTk0
namespace Go.Proofs.Ytpjafemkdoeflaa

theorem toksF_cons (f : Nat) (c : UInt8) (r : By) (a d : Nat) : toksF (f + 1) (c :: r) a d = if d % 2 = 1 ∧ blB c = true then toksF f r (a + 1) d
    else match tok1 (decide (d % 2 = 1)) (c :: r) with
      | none => ([], some a)
      | some (k, t, n) => if k = 3 ∧ d = 0 then ([], some a) else ((k, t, a, a + n) :: (toksF f ((c :: r).drop n) (a + n) (newD k d)).1, (toksF f ((c :: r).drop n) (a + n) (newD k d)).2) := rfl
/-- How a list of tokens without an error begins. -/
theorem toks_ways {f : Nat} {c : UInt8} {r : By} {a d : Nat} {ts : List Tok} (h : toksF (f + 1) (c :: r) a d = (ts, none)) :
    (d % 2 = 1 ∧ blB c = true ∧ toksF f r (a + 1) d = (ts, none)) ∨
    (¬ (d % 2 = 1 ∧ blB c = true) ∧ ∃ k t n ts', tok1 (decide (d % 2 = 1)) (c :: r) = some (k, t, n) ∧ ¬ (k = 3 ∧ d = 0) ∧ ts = (k, t, a, a + n) :: ts' ∧ toksF f ((c :: r).drop n) (a + n) (newD k d) = (ts', none)) := by
  rw [toksF_cons] at h
  by_cases hb : d % 2 = 1 ∧ blB c = true
  · rw [if_pos hb] at h
    exact .inl ⟨hb.1, hb.2, h⟩
  · rw [if_neg hb] at h
    right
    refine ⟨hb, ?_⟩
    cases ht : tok1 (decide (d % 2 = 1)) (c :: r) with
    | none => rw [ht] at h; cases h
    | some x =>
      obtain ⟨k, t, n⟩ := x
      rw [ht] at h
      dsimp only at h
      by_cases hk : k = 3 ∧ d = 0
      · rw [if_pos hk] at h; cases h
      · rw [if_neg hk] at h
        injection h with h1 h2
        exact ⟨k, t, n, _, rfl, hk, h1.symm, by rw [← h2]⟩
theorem tok1_text_of {br : Bool} {l : By} {k : Nat} {t : By} {n : Nat} (h : tok1 br l = some (k, t, n)) : (k ≠ 5 → k ≠ 6 → k ≠ 7 → l.take n = t) ∧ 1 ≤ k ∧ k ≤ 9 := by
  cases l with
  | nil => cases h
  | cons c r =>
    unfold tok1 at h
    dsimp only at h
    have hw : ((c :: r).take ((c :: r).takeWhile wdB).length) = (c :: r).takeWhile wdB := by
      have h := (tw_split (p := wdB) (c :: r)).1
      have h2 := List.take_left (l₁ := (c :: r).takeWhile wdB) (l₂ := (c :: r).drop ((c :: r).takeWhile wdB).length)
      rw [h] at h2
      exact h2
    repeat' split at h
    all_goals first
      | (cases h; done)
      | (have he := (elemT_some h).size
         exact ⟨fun h5 h6 h7 => by omega, by omega, by omega⟩)
      | (simp only [Option.some.injEq, Prod.mk.injEq] at h
         obtain ⟨rfl, rfl, rfl⟩ := h
         refine ⟨fun _ _ _ => ?_, by decide, by decide⟩
         first | rfl | exact hw)
/-- What a token's kind says of its bytes. -/
theorem tok1_form {br : Bool} {c : UInt8} {r : By} {k : Nat} {t : By} {n : Nat} (h : tok1 br (c :: r) = some (k, t, n)) :
    (k = 1 ∧ br = false ∧ n = plainN (c :: r) ∧ 1 ≤ n ∧ t = (c :: r).take n) ∨ (k = 2 ∧ c = 123 ∧ n = 1 ∧ t = [123]) ∨ (k = 3 ∧ c = 125 ∧ n = 1 ∧ t = [125]) ∨ (k = 4 ∧ br = false ∧ c = 35 ∧ n = 1 ∧ t = [35]) ∨
    (5 ≤ k ∧ k ≤ 7 ∧ br = false ∧ c = 60 ∧ IsEl r k t n) ∨ (k = 8 ∧ br = true ∧ c = 44 ∧ n = 1 ∧ t = [44]) ∨ (k = 9 ∧ br = true ∧ t = (c :: r).takeWhile wdB ∧ n = t.length ∧ 1 ≤ n) := by
  unfold tok1 at h
  dsimp only at h
  split at h
  · rename_i hc
    simp only [Option.some.injEq, Prod.mk.injEq] at h
    obtain ⟨rfl, rfl, rfl⟩ := h
    exact .inr (.inl ⟨rfl, hc, rfl, by rw [hc]⟩)
  split at h
  · rename_i hc
    simp only [Option.some.injEq, Prod.mk.injEq] at h
    obtain ⟨rfl, rfl, rfl⟩ := h
    exact .inr (.inr (.inl ⟨rfl, hc, rfl, by rw [hc]⟩))
  split at h
  · rename_i hb
    split at h
    · rename_i hc
      simp only [Option.some.injEq, Prod.mk.injEq] at h
      obtain ⟨rfl, rfl, rfl⟩ := h
      exact .inr (.inr (.inr (.inr (.inr (.inl ⟨rfl, hb, hc, rfl, by rw [hc]⟩)))))
    · split at h
      · cases h
      · rename_i hne
        simp only [Option.some.injEq, Prod.mk.injEq] at h
        obtain ⟨rfl, rfl, rfl⟩ := h
        exact .inr (.inr (.inr (.inr (.inr (.inr ⟨rfl, hb, rfl, rfl, List.length_pos_iff.2 hne⟩)))))
  · rename_i hb
    have hb : br = false := by simpa using hb
    split at h
    · rename_i hc
      simp only [Option.some.injEq, Prod.mk.injEq] at h
      obtain ⟨rfl, rfl, rfl⟩ := h
      exact .inr (.inr (.inr (.inl ⟨rfl, hb, hc, rfl, by rw [hc]⟩)))
    split at h
    · rename_i hc
      have he := elemT_some h
      have hs := he.size
      exact .inr (.inr (.inr (.inr (.inl ⟨hs.2.2.1, hs.2.2.2, hb, hc, he⟩))))
    · split at h
      · cases h
      · rename_i hne
        simp only [Option.some.injEq, Prod.mk.injEq] at h
        obtain ⟨rfl, rfl, rfl⟩ := h
        exact .inl ⟨rfl, hb, rfl, by omega, rfl⟩
/-! ### Places -/
def Good (l : By) : Nat → Nat → Bool → List Tok → Prop
  | e, d, _, [] => d = 0 ∧ e = l.length
  | e, d, pt, x :: ts => e ≤ x.2.2.1 ∧ x.2.2.1 < x.2.2.2 ∧ x.2.2.2 ≤ l.length ∧ (d % 2 = 0 → x.2.2.1 = e) ∧ (pt = true → x.1 ≠ 1) ∧ (∀ k, e ≤ k → k < x.2.2.1 → blB (l.getD k 0) = true) ∧
    (x.1 ≠ 5 → x.1 ≠ 6 → x.1 ≠ 7 → (l.drop x.2.2.1).take (x.2.2.2 - x.2.2.1) = x.2.1) ∧ (x.1 = 3 → d ≠ 0) ∧ (1 ≤ x.1 ∧ x.1 ≤ 9) ∧ Good l x.2.2.2 (newD x.1 d) (x.1 == 1) ts
theorem toks_places (l : By) : ∀ (f a d e : Nat) (pt : Bool) (ts : List Tok), toksF f (l.drop a) a d = (ts, none) → a ≤ l.length → e ≤ a → (d % 2 = 0 → e = a) → (∀ k, e ≤ k → k < a → blB (l.getD k 0) = true) →
    (pt = true → d % 2 = 0 ∧ plainN (l.drop a) = 0) → Good l e d pt ts
  | 0, a, d, e, pt, ts, h, _, _, _, _, _ => by
    rw [toksF] at h
    cases h
  | f + 1, a, d, e, pt, ts, h, ha, he, hev, hbl, hpt => by
    rcases Nat.lt_or_ge a l.length with hlt | hge
    · have hd : l.drop a = l[a] :: l.drop (a + 1) := List.drop_eq_getElem_cons hlt
      obtain ⟨c, hc⟩ : ∃ c, l[a] = c := ⟨_, rfl⟩
      have hga : l.getD a 0 = c := by rw [← hc]; simp [List.getD, hlt]
      rw [hc] at hd
      rw [hd] at h
      rcases toks_ways h with ⟨h1, h2, h3⟩ | ⟨hnb, k, t, n, ts', ht, hk, rfl, h3⟩
      · refine toks_places l f (a + 1) d e pt ts h3 hlt (by omega) (fun h => by omega) ?_ (fun h => by have := (hpt h).1; omega)
        intro k hk1 hk2
        by_cases hka : k = a
        · rw [hka, hga]; exact h2
        · exact hbl k hk1 (by omega)
      · have hn := tok1_size ht
        have hx := tok1_text_of ht
        have hlen := congrArg List.length hd
        rw [List.length_drop] at hlen
        rw [← hlen] at hn
        have hd2 : (c :: l.drop (a + 1)).drop n = l.drop (a + n) := by rw [← hd, List.drop_drop]
        rw [hd2] at h3
        refine ⟨he, by dsimp only; omega, by dsimp only; omega, fun h => (hev h).symm, ?_, hbl, ?_, fun h hd0 => hk ⟨h, hd0⟩, hx.2, ?_⟩
        · intro hp
          obtain ⟨hp1, hp2⟩ := hpt hp
          rw [hd] at hp2
          rcases tok1_form ht with ⟨_, _, h4, h5, _⟩ | ⟨h4, _⟩ | ⟨h4, _⟩ | ⟨h4, _⟩ | ⟨h4, _⟩ | ⟨h4, _⟩ | ⟨h4, _⟩
          · omega
          all_goals (dsimp only; omega)
        · intro h5 h6 h7
          dsimp only at h5 h6 h7 ⊢
          rw [Nat.add_sub_cancel_left, hd]
          exact hx.1 h5 h6 h7
        · refine toks_places l f (a + n) (newD k d) (a + n) (k == 1) ts' h3 (by omega) (Nat.le_refl _) (fun _ => rfl) (fun k h1 h2 => by omega) ?_
          intro hk1
          have hk1 : k = 1 := by simpa using hk1
          subst hk1
          rcases tok1_form ht with ⟨_, h4, h5, _, _⟩ | ⟨h4, _⟩ | ⟨h4, _⟩ | ⟨h4, _⟩ | ⟨h4, _⟩ | ⟨h4, _⟩ | ⟨h4, _⟩
          · have hdv := of_decide_eq_false h4
            have hnd : newD 1 d = d := rfl
            rw [hnd]
            refine ⟨by omega, ?_⟩
            rw [← hd2, h5]
            exact plainN_max _
          all_goals omega
    · have hd : l.drop a = [] := List.drop_eq_nil_of_le hge
      rw [hd, toksF] at h
      have hal : a = l.length := by omega
      by_cases hd0 : d = 0
      · subst hd0
        injection h with h1 _
        rw [← h1]
        exact ⟨rfl, by have := hev rfl; omega⟩
      · rw [if_neg hd0] at h
        cases h
/-! ### Joined texts -/
def keyT (x : Tok) : Nat × By := (x.1, x.2.1)
theorem toks_shift : ∀ (f : Nat) (l : By) (a b d : Nat), (toksF f l a d).1.map keyT = (toksF f l b d).1.map keyT ∧ ((toksF f l a d).2 = none ↔ (toksF f l b d).2 = none)
  | 0, l, a, b, d => by simp [toksF]
  | f + 1, [], a, b, d => by
    rw [toksF, toksF]
    by_cases h : d = 0
    · simp [h]
    · simp [h]
  | f + 1, c :: r, a, b, d => by
    rw [toksF_cons, toksF_cons]
    split
    · exact toks_shift f r _ _ d
    · cases ht : tok1 (decide (d % 2 = 1)) (c :: r) with
      | none => simp
      | some x =>
        obtain ⟨k, t, n⟩ := x
        dsimp only
        split
        · simp
        · obtain ⟨h1, h2⟩ := toks_shift f ((c :: r).drop n) (a + n) (b + n) (newD k d)
          refine ⟨?_, h2⟩
          rw [List.map_cons, List.map_cons, h1]
          rfl
theorem toks_some : ∀ (f : Nat) (l : By) (a d : Nat) (ts : List Tok), toksF f l a d = (ts, none) → l ≠ [] ∨ d ≠ 0 → ts ≠ []
  | 0, l, a, d, ts, h, _ => by rw [toksF] at h; cases h
  | f + 1, [], a, d, ts, h, hl => by
    rw [toksF] at h
    rcases hl with hl | hl
    · exact absurd rfl hl
    · rw [if_neg hl] at h; cases h
  | f + 1, c :: r, a, d, ts, h, _ => by
    rcases toks_ways h with ⟨h1, h2, h3⟩ | ⟨_, k, t, n, ts', _, _, rfl, _⟩
    · exact toks_some f r (a + 1) d ts h3 (.inr (by omega))
    · simp
/-- A token does not hang on what stands behind it. -/
theorem tok1_app {br : Bool} {c : UInt8} {r t : By} {k : Nat} {x : By} {n : Nat} (h : tok1 br (c :: r) = some (k, x, n)) (hn : (k = 1 ∨ k = 9) → n < (c :: r).length) (h92 : k = 1 → (c :: r).drop n ≠ [92]) : tok1 br (c :: (r ++ t)) = some (k, x, n) := by
  rcases tok1_form h with ⟨rfl, hb, h1, h2, h3⟩ | ⟨rfl, rfl, rfl, rfl⟩ | ⟨rfl, rfl, rfl, rfl⟩ | ⟨rfl, rfl, rfl, rfl, rfl⟩ | ⟨h5, h7, rfl, rfl, he⟩ | ⟨rfl, rfl, rfl, rfl, rfl⟩ | ⟨rfl, rfl, h1, h2, h3⟩
  · subst hb
    have hlt := hn (.inl rfl)
    have hp := plainN_less (c :: r) t (by rw [← h1]; exact hlt) (by rw [← h1]; exact h92 rfl)
    rw [← h1] at hp
    have h0 : plainN (c :: r) ≠ 0 := by omega
    have sp : ∀ q : UInt8, spB q = true → q ≠ 92 → c ≠ q := fun q hq h9 e => h0 (by rw [e]; exact plainN_sp hq (.inl h9))
    unfold tok1
    dsimp only
    rw [if_neg (sp 123 (by decide) (by decide)), if_neg (sp 125 (by decide) (by decide)), if_neg (by decide), if_neg (sp 35 (by decide) (by decide)), if_neg (sp 60 (by decide) (by decide))]
    have hp' : plainN (c :: (r ++ t)) = n := hp
    rw [hp', if_neg (by omega), h3]
    congr 2
    rw [show c :: (r ++ t) = (c :: r) ++ t from rfl, List.take_append_of_le_length (by omega)]
  · rfl
  · rfl
  · rfl
  · unfold tok1
    dsimp only
    rw [if_neg (by decide), if_neg (by decide), if_neg (by decide), if_neg (by decide), if_pos rfl]
    exact elemT_of (he.app t)
  · rfl
  · have hlt := hn (.inr rfl)
    rw [h1] at h2
    have hsp := tw_split (p := wdB) (c :: r)
    have htw : (c :: (r ++ t)).takeWhile wdB = (c :: r).takeWhile wdB := by
      obtain ⟨s1, s2, s3⟩ := hsp
      have hne : (c :: r).drop ((c :: r).takeWhile wdB).length ≠ [] := by
        intro e
        rw [e, List.append_nil] at s1
        rw [h2, s1] at hlt
        omega
      rcases s3 with s3 | ⟨b, q, s3, hb⟩
      · exact absurd s3 hne
      · rw [s3] at s1
        have e : c :: (r ++ t) = (c :: r).takeWhile wdB ++ b :: (q ++ t) := by
          have : c :: (r ++ t) = (c :: r) ++ t := rfl
          rw [this]
          conv => lhs; rw [← s1]
          simp
        rw [e]
        exact tw_app _ _ s2 (.inr ⟨b, _, rfl, hb⟩)
    have hw : wdB c = true := by
      cases hw : wdB c with
      | true => rfl
      | false =>
        rw [List.takeWhile_cons_of_neg (by rw [hw]; decide)] at h2
        simp at h2
        omega
    have n1 : c ≠ 123 := by rintro rfl; simp [wdB, wdI] at hw
    have n2 : c ≠ 125 := by rintro rfl; simp [wdB, wdI] at hw
    have n3 : c ≠ 44 := by rintro rfl; simp [wdB, wdI] at hw
    unfold tok1
    dsimp only
    rw [if_neg n1, if_neg n2, if_pos rfl, if_neg n3, htw, if_neg (by intro e; rw [e] at h2; simp at h2; omega), h1, h2]
def joinK : List (Nat × By) → List (Nat × By) → List (Nat × By)
  | [], m => m
  | [x], [] => [x]
  | [x], y :: m => if x.1 = 1 ∧ y.1 = 1 then (1, x.2 ++ y.2) :: m else x :: y :: m
  | x :: y :: l, m => x :: joinK (y :: l) m
theorem joinK_cons {x : Nat × By} {l m : List (Nat × By)} (h : l ≠ []) : joinK (x :: l) m = x :: joinK l m := by
  cases l with
  | nil => exact absurd rfl h
  | cons y l => rfl
theorem joinK_one {x : Nat × By} {m : List (Nat × By)} (h : x.1 ≠ 1) : joinK [x] m = x :: m := by
  cases m with
  | nil => rfl
  | cons y m => rw [joinK, if_neg (fun q => h q.1)]
theorem toks_join (t : By) (tt : List Tok) (ht : ∀ g a, t.length < g → ∃ us, toksF g t a 0 = (us, none) ∧ us.map keyT = tt.map keyT) : ∀ (f : Nat) (l : By) (a d : Nat) (ts : List Tok) (g : Nat), toksF f l a d = (ts, none) → (l ++ t).length < g →
    ∃ us, toksF g (l ++ t) a d = (us, none) ∧ us.map keyT = joinK (ts.map keyT) (tt.map keyT)
  | 0, l, a, d, ts, _, h, _ => by rw [toksF] at h; cases h
  | f + 1, l, a, d, ts, 0, _, hg => by omega
  | f + 1, [], a, d, ts, g + 1, h, hg => by
    rw [toksF] at h
    by_cases hd0 : d = 0
    · subst hd0
      injection h with h1 _
      rw [← h1]
      exact ht (g + 1) a hg
    · rw [if_neg hd0] at h; cases h
  | f + 1, c :: r, a, d, ts, g + 1, h, hg => by
    have hg' : (r ++ t).length < g := by
      rw [List.cons_append, List.length_cons] at hg
      omega
    rcases toks_ways h with ⟨h1, h2, h3⟩ | ⟨hnb, k, x, n, ts', h1, hk, rfl, h3⟩
    · rw [List.cons_append, toksF_cons, if_pos ⟨h1, h2⟩]
      exact toks_join t tt ht f r (a + 1) d ts g h3 hg'
    · have hn := tok1_size h1
      rw [List.cons_append, toksF_cons, if_neg hnb]
      by_cases hfull : n = (c :: r).length
      · have hdr : (c :: r).drop n = [] := by rw [hfull]; exact List.drop_length
        rw [hdr] at h3
        have hts : ts' = [] ∧ newD k d = 0 := by
          cases f with
          | zero => rw [toksF] at h3; cases h3
          | succ f =>
            rw [toksF] at h3
            by_cases hd0 : newD k d = 0
            · rw [if_pos hd0] at h3
              injection h3 with q _
              exact ⟨q.symm, hd0⟩
            · rw [if_neg hd0] at h3; cases h3
        obtain ⟨rfl, hnd⟩ := hts
        by_cases hk1 : k = 1
        · subst hk1
          have hd0 : d = 0 := hnd
          subst hd0
          rcases tok1_form h1 with ⟨_, _, e1, e2, e3⟩ | ⟨h4, _⟩ | ⟨h4, _⟩ | ⟨h4, _⟩ | ⟨h4, _⟩ | ⟨h4, _⟩ | ⟨h4, _⟩
          · have hx : x = c :: r := by rw [e3, hfull]; exact List.take_length
            have hp := plainN_app (c :: r) t (by rw [← e1]; exact hfull)
            have h0 : plainN (c :: r) ≠ 0 := by omega
            have sp : ∀ q : UInt8, spB q = true → q ≠ 92 → c ≠ q := fun q hq h9 e => h0 (by rw [e]; exact plainN_sp hq (.inl h9))
            have hp' : plainN (c :: (r ++ t)) = n + plainN t := by rw [hfull]; exact hp
            have ht1 : tok1 false (c :: (r ++ t)) = some (1, (c :: r) ++ t.take (plainN t), n + plainN t) := by
              unfold tok1
              dsimp only
              rw [if_neg (sp 123 (by decide) (by decide)), if_neg (sp 125 (by decide) (by decide)), if_neg (by decide), if_neg (sp 35 (by decide) (by decide)), if_neg (sp 60 (by decide) (by decide)), hp', if_neg (by omega)]
              congr 2
              rw [show c :: (r ++ t) = (c :: r) ++ t from rfl, hfull, List.take_length_add_append]
            have hdec : decide (0 % 2 = 1) = false := rfl
            have hdr2 : (c :: (r ++ t)).drop (n + plainN t) = t.drop (plainN t) := by
              rw [show c :: (r ++ t) = (c :: r) ++ t from rfl, hfull, List.drop_length_add_append]
            rw [hdec, ht1]
            dsimp only
            rw [if_neg (by omega), hdr2, show newD 1 0 = 0 from rfl]
            obtain ⟨us, hu1, hu2⟩ := ht (t.length + 1) 0 (by omega)
            by_cases hpt : plainN t = 0
            · rw [hpt, List.drop_zero, List.take_zero, List.append_nil, Nat.add_zero]
              obtain ⟨vs, hv1, hv2⟩ := ht g (a + n) (by rw [List.length_append] at hg'; omega)
              rw [hv1]
              refine ⟨_, rfl, ?_⟩
              rw [List.map_cons, hv2, hx]
              show (1, c :: r) :: tt.map keyT = joinK [(1, c :: r)] (tt.map keyT)
              rw [← hu2]
              cases us with
              | nil => rfl
              | cons u us =>
                rw [List.map_cons, joinK, if_neg]
                rintro ⟨_, hu⟩
                cases t with
                | nil => rw [toksF] at hu1; cases hu1
                | cons c' r' =>
                  rcases toks_ways hu1 with ⟨q, _⟩ | ⟨_, k', x', n', ts', q1, _, q2, _⟩
                  · omega
                  · injection q2 with q2 _
                    rw [q2] at hu
                    have hu : k' = 1 := hu
                    rcases tok1_form q1 with ⟨_, _, e4, e5, _⟩ | ⟨h4, _⟩ | ⟨h4, _⟩ | ⟨h4, _⟩ | ⟨h4, _⟩ | ⟨h4, _⟩ | ⟨h4, _⟩
                    · omega
                    all_goals omega
            · cases t with
              | nil => simp [plainN] at hpt
              | cons c' r' =>
                have h0' : plainN (c' :: r') ≠ 0 := hpt
                have sp' : ∀ q : UInt8, spB q = true → q ≠ 92 → c' ≠ q := fun q hq h9 e => h0' (by rw [e]; exact plainN_sp hq (.inl h9))
                have ht2 : tok1 false (c' :: r') = some (1, (c' :: r').take (plainN (c' :: r')), plainN (c' :: r')) := by
                  unfold tok1
                  dsimp only
                  rw [if_neg (sp' 123 (by decide) (by decide)), if_neg (sp' 125 (by decide) (by decide)), if_neg (by decide), if_neg (sp' 35 (by decide) (by decide)), if_neg (sp' 60 (by decide) (by decide)), if_neg h0']
                rcases toks_ways hu1 with ⟨q, _⟩ | ⟨_, k', x', n', ts', q1, _, rfl, q3⟩
                · omega
                · rw [hdec, ht2] at q1
                  simp only [Option.some.injEq, Prod.mk.injEq] at q1
                  obtain ⟨rfl, rfl, rfl⟩ := q1
                  rw [show newD 1 0 = 0 from rfl] at q3
                  have hfu := toksF_fuel g (c' :: r').length ((c' :: r').drop (plainN (c' :: r'))) (a + (n + plainN (c' :: r'))) 0 (by rw [List.length_drop]; rw [List.length_append] at hg'; omega) (by rw [List.length_drop, List.length_cons]; have := plainN_le (c' :: r'); rw [List.length_cons] at this; omega)
                  have hsh := toks_shift (c' :: r').length ((c' :: r').drop (plainN (c' :: r'))) (a + (n + plainN (c' :: r'))) (0 + plainN (c' :: r')) 0
                  rw [q3] at hsh
                  rw [hfu]
                  refine ⟨_, by rw [hsh.2.2 rfl], ?_⟩
                  rw [List.map_cons, hsh.1, ← hu2, hx]
                  show (1, (c :: r) ++ _) :: _ = joinK [(1, c :: r)] ((1, (c' :: r').take (plainN (c' :: r'))) :: ts'.map keyT)
                  rw [joinK, if_pos ⟨rfl, rfl⟩]
          all_goals omega
        · have hk9 : k ≠ 9 := by
            rintro rfl
            rcases tok1_form h1 with ⟨h4, _⟩ | ⟨h4, _⟩ | ⟨h4, _⟩ | ⟨h4, _⟩ | ⟨_, h4, _⟩ | ⟨h4, _⟩ | ⟨_, h4, _⟩
            all_goals first | omega | skip
            have := of_decide_eq_true h4
            have hnd : d = 0 := hnd
            omega
          have ht1 := tok1_app (t := t) h1 (fun h => by omega) (fun h => absurd h hk1)
          rw [ht1]
          dsimp only
          rw [if_neg hk]
          have hdr2 : (c :: (r ++ t)).drop n = t := by rw [show c :: (r ++ t) = (c :: r) ++ t from rfl, hfull]; exact List.drop_left
          rw [hdr2, hnd]
          obtain ⟨vs, hv1, hv2⟩ := ht g (a + n) (by rw [List.length_append] at hg'; omega)
          rw [hv1]
          refine ⟨_, rfl, ?_⟩
          rw [List.map_cons, hv2]
          exact (joinK_one (x := keyT (k, x, a, a + n)) hk1).symm
      · have hnl : n < (c :: r).length := by omega
        have hne : (c :: r).drop n ≠ [] := by
          intro e
          have := congrArg List.length e
          rw [List.length_drop, List.length_nil] at this
          omega
        have h92 : k = 1 → (c :: r).drop n ≠ [92] := by
          rintro rfl e
          rcases tok1_form h1 with ⟨_, h4, _⟩ | ⟨h4, _⟩ | ⟨h4, _⟩ | ⟨h4, _⟩ | ⟨h4, _⟩ | ⟨h4, _⟩ | ⟨h4, _⟩
          · rw [e, show newD 1 d = d from rfl] at h3
            have hdv := of_decide_eq_false h4
            cases f with
            | zero => rw [toksF] at h3; cases h3
            | succ f =>
              rcases toks_ways h3 with ⟨q, _⟩ | ⟨_, k', x', n', ts', q1, _⟩
              · omega
              · rw [h4] at q1
                cases q1
          all_goals omega
        have ht1 := tok1_app (t := t) h1 (fun _ => hnl) h92
        rw [ht1]
        dsimp only
        rw [if_neg hk]
        have hdr2 : (c :: (r ++ t)).drop n = (c :: r).drop n ++ t := by rw [show c :: (r ++ t) = (c :: r) ++ t from rfl, List.drop_append_of_le_length (by omega)]
        rw [hdr2]
        obtain ⟨us, hu1, hu2⟩ := toks_join t tt ht f ((c :: r).drop n) (a + n) (newD k d) ts' g h3 (by
          rw [List.length_append, List.length_drop]
          rw [List.length_append] at hg'
          rw [List.length_cons]
          omega)
        rw [hu1]
        refine ⟨_, rfl, ?_⟩
        rw [List.map_cons, hu2, List.map_cons, joinK_cons (by simpa using toks_some _ _ _ _ _ h3 (.inl hne))]
theorem toks_err : ∀ (f : Nat) (l : By) (a d p : Nat), (toksF f l a d).2 = some p → a ≤ p ∧ p ≤ a + l.length
  | 0, l, a, d, p, h => by
    rw [toksF] at h
    cases h
    omega
  | f + 1, [], a, d, p, h => by
    rw [toksF] at h
    by_cases hd : d = 0
    · simp [hd] at h
    · simp [hd] at h
      simp
      omega
  | f + 1, c :: r, a, d, p, h => by
    rw [toksF_cons] at h
    rw [List.length_cons]
    split at h
    · have := toks_err f r _ _ p h
      omega
    · cases ht : tok1 (decide (d % 2 = 1)) (c :: r) with
      | none =>
        rw [ht] at h
        cases h
        omega
      | some x =>
        obtain ⟨k, t, n⟩ := x
        rw [ht] at h
        dsimp only at h
        have hn := tok1_size ht
        rw [List.length_cons] at hn
        split at h
        · cases h
          omega
        · have := toks_err f _ _ _ p h
          rw [List.length_drop, List.length_cons] at this
          omega
end Go.Proofs.Ytpjafemkdoeflaa
