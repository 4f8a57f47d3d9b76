/-
  The law TokenBlanks, without the program: blanks laid between the tokens in braces change no token.
-/
import Derived.Test.YtpjafemkdoeflaaTkQ
namespace Go.Proofs.Ytpjafemkdoeflaa

def bl (n : Nat) : By := [32, 9, 10].take n
theorem bl_len (n : Nat) : (bl n).length ≤ 3 := by
  unfold bl
  rw [List.length_take]
  exact Nat.min_le_right _ _
theorem bl_bl {n : Nat} {x : UInt8} (h : x ∈ bl n) : blB x = true := by
  have h := List.mem_of_mem_take h
  simp at h
  rcases h with rfl | rfl | rfl <;> decide
theorem bl_pos {n : Nat} (h : 1 ≤ n) : ∃ r, bl n = 32 :: r := by
  cases n with
  | zero => omega
  | succ n => exact ⟨_, rfl⟩
/-- The text laid again, with G i blanks ahead of the i-th token where that stands in braces. -/
def reb (G : Nat → Nat) : List (Nat × By) → Nat → Nat → By
  | [], _, _ => []
  | x :: r, i, d => (if d % 2 = 1 then bl (G i) else []) ++ (x.2 ++ reb G r (i + 1) (newD x.1 d))
/-- Two words in a row have a blank between them. -/
def gok (G : Nat → Nat) : Nat → List (Nat × By) → Nat → Prop
  | _, [], _ => True
  | p, x :: r, i => (x.1 = 9 → p = 9 → 1 ≤ G i) ∧ gok G x.1 r (i + 1)
def chs (s : By) (ts : List Tok) : List (Nat × By) := ts.map fun x => (x.1, (s.drop x.2.2.1).take (x.2.2.2 - x.2.2.1))
/-- A token stands ahead of whatever does not lengthen it. -/
theorem tok1_rep {br : Bool} {c : UInt8} {r : By} {k : Nat} {x : By} {n : Nat} (R : By) (h : tok1 br (c :: r) = some (k, x, n)) (h1 : k = 1 → plainN R = 0) (h9 : k = 9 → R = [] ∨ ∃ b q, R = b :: q ∧ wdB b = false) :
    tok1 br ((c :: r).take n ++ R) = some (k, x, n) := by
  rcases tok1_form h with ⟨rfl, hb, e1, e2, e3⟩ | ⟨rfl, rfl, rfl, rfl⟩ | ⟨rfl, rfl, rfl, rfl⟩ | ⟨rfl, rfl, rfl, rfl, rfl⟩ | ⟨h5, h7, rfl, rfl, he⟩ | ⟨rfl, rfl, rfl, rfl, rfl⟩ | ⟨rfl, rfl, e1, e2, e3⟩
  · subst hb
    have hle := plainN_le (c :: r)
    have hlt : ((c :: r).take n).length = n := by rw [List.length_take]; omega
    have hp : plainN ((c :: r).take n) = n := by rw [e1]; exact plainN_take _
    have hp2 := plainN_app ((c :: r).take n) R (by rw [hp, hlt])
    rw [hlt, h1 rfl, Nat.add_zero] at hp2
    obtain ⟨m, rfl⟩ : ∃ m, n = m + 1 := ⟨n - 1, by omega⟩
    rw [List.take_succ_cons, List.cons_append] at hp2 ⊢
    have h0 : plainN (c :: (r.take m ++ R)) ≠ 0 := by omega
    have sp : ∀ q : UInt8, spB q = true → q ≠ 92 → c ≠ q := fun q hq h9 e => h0 (by rw [e]; exact plainN_sp hq (.inl h9))
    unfold tok1
    dsimp only
    rw [if_neg (sp 123 (by decide) (by decide)), if_neg (sp 125 (by decide) (by decide)), if_neg (by decide), if_neg (sp 35 (by decide) (by decide)), if_neg (sp 60 (by decide) (by decide)), hp2, if_neg (by omega), e3]
    congr 2
    rw [List.take_succ_cons, List.take_succ_cons] at *
    have hm : (r.take m).length = m := by rw [List.length_cons] at hlt; omega
    rw [List.take_append_of_le_length (by omega), List.take_of_length_le (by omega)]
  · rfl
  · rfl
  · rfl
  · have hs := he.size
    obtain ⟨m, rfl⟩ : ∃ m, n = m + 1 := ⟨n - 1, by omega⟩
    rw [List.take_succ_cons, List.cons_append]
    unfold tok1
    dsimp only
    rw [if_neg (by decide), if_neg (by decide), if_neg (by decide), if_neg (by decide), if_pos rfl]
    exact elemT_of (he.cut.app R)
  · rfl
  · obtain ⟨s1, s2, _⟩ := tw_split (p := wdB) (c :: r)
    rw [← e1] at s1 s2
    have ht : (c :: r).take n = x := by
      have := List.take_left (l₁ := x) (l₂ := (c :: r).drop x.length)
      rw [s1] at this
      rw [e2]
      exact this
    rw [ht]
    cases x with
    | nil => simp at e2; omega
    | cons c' x' =>
      have hcc : c' = c := by
        have := congrArg List.head? s1
        simpa using this
      subst hcc
      have hw : wdB c' = true := s2 c' (List.mem_cons_self ..)
      have htw := tw_app (p := wdB) (c' :: x') R s2 (h9 rfl)
      rw [List.cons_append] at htw ⊢
      have n1 : c' ≠ 123 := by rintro rfl; simp [wdB, wdI] at hw
      have n2 : c' ≠ 125 := by rintro rfl; simp [wdB, wdI] at hw
      have n3 : c' ≠ 44 := by rintro rfl; simp [wdB, wdI] at hw
      unfold tok1
      dsimp only
      rw [if_neg n1, if_neg n2, if_pos rfl, if_neg n3, htw, if_neg (by simp), e2]
theorem toksF_skip {d : Nat} (hd : d % 2 = 1) : ∀ (bs L : By) (g b : Nat), (∀ x ∈ bs, blB x = true) → toksF (g + bs.length) (bs ++ L) b d = toksF g L (b + bs.length) d
  | [], L, g, b, _ => rfl
  | c :: bs, L, g, b, h => by
    rw [List.length_cons, List.cons_append, ← Nat.add_assoc, toksF_cons, if_pos ⟨hd, h c (List.mem_cons_self ..)⟩, toksF_skip hd bs L g (b + 1) (fun x hx => h x (List.mem_cons_of_mem _ hx))]
    congr 1
    omega
theorem chs_cons (s : By) (k : Nat) (x : By) (a n : Nat) (ts : List Tok) : chs s ((k, x, a, a + n) :: ts) = (k, (s.drop a).take n) :: chs s ts := by
  unfold chs
  rw [List.map_cons, Nat.add_sub_cancel_left]
/-- What stands behind a text. -/
theorem reb_plain {s : By} {G : Nat → Nat} {f a d i : Nat} {ts : List Tok} (h : toksF f (s.drop a) a d = (ts, none)) (hd : d % 2 = 0) (h0 : plainN (s.drop a) = 0) : plainN (reb G (chs s ts) i d) = 0 := by
  cases f with
  | zero => rw [toksF] at h; cases h
  | succ f =>
    cases hs : s.drop a with
    | nil =>
      rw [hs, toksF] at h
      by_cases hd0 : d = 0
      · rw [if_pos hd0] at h
        injection h with h1 _
        rw [← h1]
        simp [chs, reb, plainN]
      · rw [if_neg hd0] at h; cases h
    | cons c r =>
      rw [hs] at h h0
      rcases toks_ways h with ⟨h1, _⟩ | ⟨_, k, x, n, ts', h1, _, rfl, _⟩
      · omega
      · have hn := tok1_size h1
        obtain ⟨m, rfl⟩ : ∃ m, n = m + 1 := ⟨n - 1, by omega⟩
        rw [chs_cons, reb, if_neg (by omega), hs, List.nil_append, List.take_succ_cons, List.cons_append]
        have hbr : decide (d % 2 = 1) = false := by simp; omega
        rw [hbr] at h1
        rcases tok1_form h1 with ⟨_, _, e1, e2, _⟩ | ⟨_, rfl, _⟩ | ⟨_, rfl, _⟩ | ⟨_, _, rfl, _⟩ | ⟨_, _, _, rfl, _⟩ | ⟨_, e, _⟩ | ⟨_, e, _⟩
        · omega
        · exact plainN_sp (by decide) (.inl (by decide))
        · exact plainN_sp (by decide) (.inl (by decide))
        · exact plainN_sp (by decide) (.inl (by decide))
        · exact plainN_sp (by decide) (.inl (by decide))
        · cases e
        · cases e
/-- What stands behind a word. -/
theorem reb_word {s : By} {G : Nat → Nat} : ∀ {f a d i : Nat} {ts : List Tok}, toksF f (s.drop a) a d = (ts, none) → d % 2 = 1 → gok G 9 (chs s ts) i → reb G (chs s ts) i d = [] ∨ ∃ b q, reb G (chs s ts) i d = b :: q ∧ wdB b = false
  | 0, a, d, i, ts, h, hd, hg => by rw [toksF] at h; cases h
  | f + 1, a, d, i, ts, h, hd, hg => by
    cases hs : s.drop a with
    | nil =>
      rw [hs, toksF, if_neg (by omega)] at h
      cases h
    | cons c r =>
      have hr : s.drop (a + 1) = r := by rw [← List.drop_drop, hs]; rfl
      rw [hs] at h
      rcases toks_ways h with ⟨_, _, h3⟩ | ⟨_, k, x, n, ts', h1, _, rfl, _⟩
      · rw [← hr] at h3
        exact reb_word h3 hd hg
      · rw [chs_cons] at hg ⊢
        rw [reb, if_pos hd]
        by_cases hG : 1 ≤ G i
        · obtain ⟨q, hq⟩ := bl_pos hG
          rw [hq]
          exact .inr ⟨_, _, rfl, by decide⟩
        · have hG0 : G i = 0 := by omega
          have hk9 : k ≠ 9 := fun e => hG (hg.1 e rfl)
          have hn := tok1_size h1
          obtain ⟨m, rfl⟩ : ∃ m, n = m + 1 := ⟨n - 1, by omega⟩
          rw [hG0, hs]
          have hbr : decide (d % 2 = 1) = true := by simp; omega
          rw [hbr] at h1
          refine .inr ⟨c, _, rfl, ?_⟩
          rcases tok1_form h1 with ⟨_, e, _⟩ | ⟨_, rfl, _⟩ | ⟨_, rfl, _⟩ | ⟨_, e, _⟩ | ⟨_, _, e, _⟩ | ⟨_, _, rfl, _⟩ | ⟨e, _⟩
          · cases e
          · decide
          · decide
          · cases e
          · cases e
          · decide
          · exact absurd e hk9
theorem toks_reb (s : By) (G : Nat → Nat) : ∀ (f a d i p : Nat) (ts : List Tok) (g b : Nat), toksF f (s.drop a) a d = (ts, none) → gok G p (chs s ts) i → (reb G (chs s ts) i d).length < g →
    ∃ us, toksF g (reb G (chs s ts) i d) b d = (us, none) ∧ us.map keyT = ts.map keyT
  | 0, a, d, i, p, ts, g, b, h, _, _ => by rw [toksF] at h; cases h
  | f + 1, a, d, i, p, ts, g, b, h, hg, hl => by
    cases hs : s.drop a with
    | nil =>
      rw [hs, toksF] at h
      by_cases hd0 : d = 0
      · rw [if_pos hd0] at h
        injection h with h1 _
        rw [← h1] at hl ⊢
        cases g with
        | zero => omega
        | succ g =>
          refine ⟨[], ?_, rfl⟩
          show toksF (g + 1) [] b d = _
          rw [toksF, if_pos hd0]
      · rw [if_neg hd0] at h; cases h
    | cons c r =>
      have hr : s.drop (a + 1) = r := by rw [← List.drop_drop, hs]; rfl
      rw [hs] at h
      rcases toks_ways h with ⟨_, _, h3⟩ | ⟨hnb, k, x, n, ts', h1, hk, rfl, h3⟩
      · rw [← hr] at h3
        exact toks_reb s G f (a + 1) d i p ts g b h3 hg hl
      · have hn := tok1_size h1
        rw [chs_cons] at hg hl ⊢
        rw [reb] at hl ⊢
        dsimp only at hl ⊢
        have hdr : (c :: r).drop n = s.drop (a + n) := by rw [← hs, List.drop_drop]
        rw [hdr] at h3
        have hrep := tok1_rep (reb G (chs s ts') (i + 1) (newD k d)) h1 (fun hk1 => by
          subst hk1
          rcases tok1_form h1 with ⟨_, e, e1, _, _⟩ | ⟨e, _⟩ | ⟨e, _⟩ | ⟨e, _⟩ | ⟨e, _⟩ | ⟨e, _⟩ | ⟨e, _⟩
          · have hdv := of_decide_eq_false e
            have hnd : newD 1 d = d := rfl
            rw [hnd] at h3 ⊢
            refine reb_plain h3 (by omega) ?_
            rw [← hdr, e1]
            exact plainN_max _
          all_goals omega) (fun hk9 => by
          subst hk9
          rcases tok1_form h1 with ⟨e, _⟩ | ⟨e, _⟩ | ⟨e, _⟩ | ⟨e, _⟩ | ⟨_, e, _⟩ | ⟨e, _⟩ | ⟨_, e, _⟩
          · omega
          · omega
          · omega
          · omega
          · omega
          · omega
          · have hdv := of_decide_eq_true e
            have hnd : newD 9 d = d := rfl
            rw [hnd] at h3 ⊢
            exact reb_word h3 hdv hg.2)
        obtain ⟨R, hR⟩ : ∃ R, reb G (chs s ts') (i + 1) (newD k d) = R := ⟨_, rfl⟩
        have ih := fun g b hl => toks_reb s G f (a + n) (newD k d) (i + 1) k ts' g b h3 hg.2 hl
        rw [hR] at hl hrep ih ⊢
        rw [hs] at hl ⊢
        have hlt : ((c :: r).take n).length = n := by rw [List.length_take]; omega
        have hmain : ∀ g b, ((c :: r).take n ++ R).length < g → ∃ us, toksF g ((c :: r).take n ++ R) b d = (us, none) ∧ us.map keyT = ((k, x, a, a + n) :: ts').map keyT := by
          intro g b hl
          rw [List.length_append, hlt] at hl
          have hdrop : ((c :: r).take n ++ R).drop n = R := by
            have := List.drop_left (l₁ := (c :: r).take n) (l₂ := R)
            rw [hlt] at this
            exact this
          obtain ⟨L, hL⟩ : ∃ L, (c :: r).take n ++ R = c :: L := by
            obtain ⟨m, rfl⟩ : ∃ m, n = m + 1 := ⟨n - 1, by omega⟩
            exact ⟨_, rfl⟩
          cases g with
          | zero => omega
          | succ g =>
            obtain ⟨us, hu1, hu2⟩ := ih g (b + n) (by omega)
            rw [hL] at hrep hdrop ⊢
            rw [toksF_cons, if_neg hnb, hrep]
            dsimp only
            rw [if_neg hk, hdrop, hu1]
            refine ⟨_, rfl, ?_⟩
            rw [List.map_cons, List.map_cons, hu2]
            rfl
        by_cases hd : d % 2 = 1
        · rw [if_pos hd] at hl ⊢
          rw [List.length_append] at hl
          obtain ⟨g', rfl⟩ : ∃ g', g = g' + (bl (G i)).length := ⟨g - (bl (G i)).length, by omega⟩
          rw [toksF_skip hd _ _ _ _ (fun x hx => bl_bl hx)]
          exact hmain g' _ (by omega)
        · rw [if_neg hd, List.nil_append] at hl ⊢
          exact hmain g b hl
end Go.Proofs.Ytpjafemkdoeflaa
