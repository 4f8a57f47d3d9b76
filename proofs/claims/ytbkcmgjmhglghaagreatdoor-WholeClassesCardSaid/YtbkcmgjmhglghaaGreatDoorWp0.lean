/-
  Conditions and numbers, plain.
-/
namespace Go.Proofs.YtbkcmgjmhglghaaGreatDoor

abbrev Sp := Int × Int
structure Rel where
  op : Int
  md : Int
  nt : Bool
  sp : List Sp
abbrev Cnd := List (List Rel)
structure Rul where
  cls : ByteArray
  cond : Cnd

def inL (xs : List Int) (n : Int) : Bool := xs.contains n
theorem inL_nil (n : Int) : inL [] n = false := rfl
theorem inL_cons (x : Int) (xs : List Int) (n : Int) : inL (x :: xs) n = (x == n || inL xs n) := by
  unfold inL
  rw [List.contains_cons, show (n == x) = (x == n) from by rw [Bool.eq_iff_iff, beq_iff_eq, beq_iff_eq]; exact eq_comm]
theorem inL_drop {xs : List Int} {n : Int} {i : Nat} (h : i < xs.length) : inL (xs.drop i) n = (xs.getD i 0 == n || inL (xs.drop (i + 1)) n) := by
  rw [List.drop_eq_getElem_cons h, inL_cons]
  simp [List.getD, h]
def modsL (op : Int) : List Int := if op = 1 ∨ op = 2 then [2, 3, 4, 5, 6, 10, 20, 25, 50, 100] else if op = 5 ∨ op = 6 then [10, 100] else []
def boundV (op : Int) : Int := if op = 3 ∨ op = 4 then 6 else 100
def spanB (op : Int) (s : Sp) : Bool := decide (0 ≤ s.1) && decide (s.1 ≤ s.2) && decide (s.2 ≤ boundV op)
def relB (r : Rel) : Bool := decide (1 ≤ r.op) && decide (r.op ≤ 6) && (decide (r.md = 0) || inL (modsL r.op) r.md) && decide (1 ≤ r.sp.length) && decide (r.sp.length ≤ 4) && r.sp.all (spanB r.op)
/-- The number of relations. -/
def total (c : Cnd) : Nat := (c.map List.length).sum
def condB (c : Cnd) : Bool := decide (0 < c.length) && c.all (fun l => decide (0 < l.length) && l.all relB) && decide (total c ≤ 6)

/-! ### Numbers -/
structure Num where
  wh : List Nat
  fr : List Nat
def Digs (l : List Nat) : Prop := ∀ d ∈ l, d < 10
def Num.OK (x : Num) : Prop := Digs x.wh ∧ Digs x.fr ∧ 1 ≤ x.wh.length ∧ x.wh.length ≤ 15 ∧ (1 < x.wh.length → x.wh.head? ≠ some 0) ∧ x.fr.length ≤ 6
def val (l : List Nat) : Nat := l.foldl (fun a d => 10 * a + d) 0
def trim (l : List Nat) : List Nat := (l.reverse.dropWhile (· == 0)).reverse
theorem val_snoc (l : List Nat) (d : Nat) : val (l ++ [d]) = 10 * val l + d := by simp [val]
theorem trim_nil : trim [] = [] := rfl
theorem trim_snoc (l : List Nat) (d : Nat) : trim (l ++ [d]) = if d = 0 then trim l else l ++ [d] := by
  unfold trim
  rw [List.reverse_append]
  simp only [List.reverse_cons, List.reverse_nil, List.nil_append, List.singleton_append, List.dropWhile_cons]
  by_cases h : d = 0 <;> simp [h]
def opd (x : Num) (op : Int) : Option Nat :=
  if op = 1 then (if trim x.fr = [] then some (val x.wh) else none)
  else if op = 2 then some (val x.wh)
  else if op = 3 then some x.fr.length
  else if op = 4 then some (trim x.fr).length
  else if op = 5 then some (val x.fr)
  else some (val (trim x.fr))
def inS (sp : List Sp) (n : Int) : Bool := sp.any fun s => decide (s.1 ≤ n) && decide (n ≤ s.2)
def modV (r : Rel) (n : Int) : Int := if r.md = 0 then n else n % r.md
def relH (r : Rel) (x : Num) : Bool := match opd x r.op with
  | none => r.nt
  | some v => inS r.sp (modV r v) != r.nt
def condH (c : Cnd) (x : Num) : Bool := c.any fun l => l.all fun r => relH r x

/-! ### Trackers -/
def great (r : Rel) : Int := r.sp.foldl (fun n s => max n s.2) 0
def red (r : Rel) (n : Int) : Int := if r.md = 0 then min n (great r + 1) else n % r.md
abbrev Tr := Int × Int
def trRead (r : Rel) (t : Tr) (bh : Bool) (d : Int) : Tr :=
  if r.op = 1 ∨ r.op = 2 then (if bh = false then (red r (10 * t.1 + d), t.2) else if d ≠ 0 ∧ r.op = 1 then (t.1, 1) else t)
  else if bh = false then t
  else if r.op = 3 ∨ r.op = 4 then (if d ≠ 0 ∨ r.op = 3 then red r (t.2 + 1) else t.1, red r (t.2 + 1))
  else (if d ≠ 0 ∨ r.op = 5 then red r (10 * t.2 + d) else t.1, red r (10 * t.2 + d))
def trHolds (r : Rel) (t : Tr) : Bool := if r.op = 1 ∧ t.2 = 1 then r.nt else inS r.sp t.1 != r.nt
def onWh (r : Rel) : Bool := decide (r.op = 2) || decide (r.op = 1)

theorem great_fold (l : List Sp) (a : Int) : a ≤ l.foldl (fun n s => max n s.2) a ∧ ∀ s ∈ l, s.2 ≤ l.foldl (fun n s => max n s.2) a := by
  induction l generalizing a with
  | nil => simp
  | cons x l ih =>
    obtain ⟨h1, h2⟩ := ih (max a x.2)
    constructor
    · simp only [List.foldl_cons]; omega
    · intro s hs
      simp only [List.foldl_cons]
      rcases List.mem_cons.1 hs with rfl | hs
      · omega
      · exact h2 s hs
theorem great_nonneg (r : Rel) : 0 ≤ great r := (great_fold r.sp 0).1
theorem le_great (r : Rel) {s : Sp} (h : s ∈ r.sp) : s.2 ≤ great r := (great_fold r.sp 0).2 s h
theorem great_le_fold (l : List Sp) (a k : Int) (ha : a ≤ k) (h : ∀ s ∈ l, s.2 ≤ k) : l.foldl (fun n s => max n s.2) a ≤ k := by
  induction l generalizing a with
  | nil => exact ha
  | cons x l ih =>
    refine ih _ ?_ fun s hs => h s (List.mem_cons_of_mem _ hs)
    have := h x List.mem_cons_self
    show max a x.2 ≤ k
    omega
theorem relB_op {r : Rel} (h : relB r = true) : 1 ≤ r.op ∧ r.op ≤ 6 := by
  simp [relB] at h
  omega
theorem relB_md {r : Rel} (h : relB r = true) : r.md = 0 ∨ r.md ∈ modsL r.op := by
  simp [relB, inL] at h
  exact h.1.1.1.2
theorem relB_sp {r : Rel} (h : relB r = true) : 1 ≤ r.sp.length ∧ r.sp.length ≤ 4 := by
  simp only [relB, Bool.and_eq_true, decide_eq_true_eq] at h
  omega
theorem relB_span {r : Rel} (h : relB r = true) {s : Sp} (hs : s ∈ r.sp) : 0 ≤ s.1 ∧ s.1 ≤ s.2 ∧ s.2 ≤ boundV r.op := by
  simp only [relB, Bool.and_eq_true, List.all_eq_true] at h
  have := h.2 s hs
  simp [spanB] at this
  omega
theorem modsL_le {op md : Int} (h : md ∈ modsL op) : 2 ≤ md ∧ md ≤ 100 ∧ 300 % md = 0 := by
  unfold modsL at h
  split at h
  · simp at h
    rcases h with rfl | rfl | rfl | rfl | rfl | rfl | rfl | rfl | rfl | rfl <;> decide
  · split at h
    · simp at h
      rcases h with rfl | rfl <;> decide
    · simp at h
theorem boundV_le (op : Int) : boundV op ≤ 100 ∧ 6 ≤ boundV op := by unfold boundV; split <;> omega
theorem great_le {r : Rel} (h : relB r = true) : great r ≤ 100 :=
  great_le_fold _ _ _ (by omega) fun s hs => by
    have := (relB_span h hs).2.2
    have := (boundV_le r.op).1
    omega
theorem red_range {r : Rel} (h : relB r = true) {n : Int} (hn : 0 ≤ n) : 0 ≤ red r n ∧ red r n ≤ 101 := by
  have h1 := great_nonneg r
  have h2 := great_le h
  unfold red
  split
  · omega
  · rename_i hm
    rcases relB_md h with h0 | h0
    · exact absurd h0 hm
    · have := modsL_le h0
      have a1 := Int.emod_nonneg n (show r.md ≠ 0 by omega)
      have a2 := Int.emod_lt_of_pos n (show 0 < r.md by omega)
      omega
theorem red_zero (r : Rel) : red r 0 = 0 := by
  have := great_nonneg r
  unfold red
  split
  · omega
  · simp
/-- Reducing on the way. -/
theorem red_step {r : Rel} (_ : relB r = true) (n d : Int) (_ : 0 ≤ n) (_ : 0 ≤ d) : red r (10 * red r n + d) = red r (10 * n + d) := by
  have h1 := great_nonneg r
  unfold red
  split
  · omega
  · rw [Int.add_emod, Int.mul_emod, Int.emod_emod_of_dvd _ (Int.dvd_refl _), ← Int.mul_emod, ← Int.add_emod]
theorem red_succ {r : Rel} (_ : relB r = true) (n : Int) (_ : 0 ≤ n) : red r (red r n + 1) = red r (n + 1) := by
  have h1 := great_nonneg r
  unfold red
  split
  · omega
  · rw [Int.add_emod, Int.emod_emod_of_dvd _ (Int.dvd_refl _), ← Int.add_emod]
theorem inS_red (r : Rel) (n : Int) : inS r.sp (red r n) = inS r.sp (modV r n) := by
  unfold red modV
  split
  · rw [Bool.eq_iff_iff]
    unfold inS
    rw [List.any_eq_true, List.any_eq_true]
    constructor
    · rintro ⟨s, hs, h⟩
      refine ⟨s, hs, ?_⟩
      have := le_great r hs
      simp at h ⊢
      omega
    · rintro ⟨s, hs, h⟩
      refine ⟨s, hs, ?_⟩
      have := le_great r hs
      simp at h ⊢
      omega
  · rfl

def whTr (r : Rel) (n : Int) : Tr := if onWh r = true then (red r n, 0) else (0, 0)
def readL (r : Rel) (bh : Bool) (t : Tr) (l : List Nat) : Tr := l.foldl (fun t (d : Nat) => trRead r t bh d) t
theorem readL_snoc (r : Rel) (bh : Bool) (t : Tr) (l : List Nat) (d : Nat) : readL r bh t (l ++ [d]) = trRead r (readL r bh t l) bh d := by simp [readL]
theorem snoc_ind {P : List Nat → Prop} (h0 : P []) (h : ∀ l d, P l → P (l ++ [d])) (l : List Nat) : P l := by
  suffices ∀ m : List Nat, P m.reverse from by have := this l.reverse; rwa [List.reverse_reverse] at this
  intro m
  induction m with
  | nil => exact h0
  | cons d m ih => rw [List.reverse_cons]; exact h _ _ ih
theorem readL_wh {r : Rel} (h : relB r = true) (l : List Nat) : readL r false (0, 0) l = whTr r (val l) := by
  induction l using snoc_ind with
  | h0 =>
    unfold whTr
    split
    · simp [readL, val, red_zero]
    · rfl
  | h l d ih =>
    rw [readL_snoc, ih, val_snoc]
    unfold whTr trRead onWh
    by_cases h1 : r.op = 1 ∨ r.op = 2
    · have h2 : (decide (r.op = 2) || decide (r.op = 1)) = true := by simp; omega
      rw [if_pos h2, if_pos h1, if_pos rfl, if_pos h2]
      show (red r (10 * red r _ + _), _) = _
      rw [red_step h _ _ (by omega) (by omega)]
      rfl
    · have h2 : ¬ (decide (r.op = 2) || decide (r.op = 1)) = true := by simp; omega
      rw [if_neg h2, if_neg h1, if_pos rfl, if_neg h2]
/-- All digits are 0. -/
def zer (l : List Nat) : Bool := l.all (· == 0)
theorem zer_snoc (l : List Nat) (d : Nat) : zer (l ++ [d]) = (zer l && d == 0) := by simp [zer]
theorem trim_zer (l : List Nat) : (trim l = []) ↔ zer l = true := by
  induction l using snoc_ind with
  | h0 => simp [trim, zer]
  | h l d ih =>
    rw [trim_snoc, zer_snoc]
    by_cases h : d = 0
    · simp [h, ih]
    · simp [h]
theorem readL_fr {r : Rel} (h : relB r = true) (t : Tr) (ht : t.2 ≠ 1) (hu : onWh r = false → t = (0, 0)) (l : List Nat) : readL r true t l =
    if r.op = 1 then (t.1, if zer l then t.2 else 1) else if r.op = 2 then t
    else if r.op = 3 then (red r l.length, red r l.length) else if r.op = 4 then (red r (trim l).length, red r l.length)
    else if r.op = 5 then (red r (val l), red r (val l)) else (red r (val (trim l)), red r (val l)) := by
  induction l using snoc_ind with
  | h0 =>
    by_cases h1 : r.op = 1
    · simp [h1, readL, zer]
    · by_cases h2 : r.op = 2
      · simp [h2, readL]
      · have := hu (by unfold onWh; simp [h1, h2])
        subst this
        have e := red_zero r
        simp [h1, h2, readL, trim, val, e]
  | h l d ih =>
    have := relB_op h
    rw [readL_snoc, ih, zer_snoc, trim_snoc, val_snoc]
    clear ih
    by_cases h1 : r.op = 1
    · simp only [trRead, h1]
      by_cases hd : d = 0
      · simp [hd]
      · simp [hd]
    · by_cases h2 : r.op = 2
      · simp [trRead, h2]
      · by_cases h3 : r.op = 3
        · simp only [trRead, h3]
          simp [red_succ h _ (show (0 : Int) ≤ l.length by omega)]
        · by_cases h4 : r.op = 4
          · simp only [trRead, h4]
            by_cases hd : d = 0
            · simp [hd, red_succ h _ (show (0 : Int) ≤ l.length by omega)]
            · simp [hd, red_succ h _ (show (0 : Int) ≤ l.length by omega)]
          · by_cases h5 : r.op = 5
            · simp only [trRead, h5]
              simp [red_step h _ _ (show (0 : Int) ≤ val l by omega) (show (0 : Int) ≤ d by omega)]
            · have h6 : r.op = 6 := by omega
              simp only [trRead, h6]
              by_cases hd : d = 0
              · have := red_step h (val l) 0 (by omega) (by omega)
                simp [hd] at this ⊢
                exact this
              · simp [hd, red_step h _ _ (show (0 : Int) ≤ val l by omega) (show (0 : Int) ≤ d by omega), val_snoc]
/-- What the trackers have read of a number tells whether the relation holds. -/
theorem tr_holds {r : Rel} (h : relB r = true) (x : Num) : trHolds r (readL r true (readL r false (0, 0) x.wh) x.fr) = relH r x := by
  have ho := relB_op h
  rw [readL_wh h, readL_fr h _ (by unfold whTr; split <;> simp) (by unfold whTr; intro h; rw [if_neg (by simp [h])])]
  unfold relH opd trHolds
  by_cases h1 : r.op = 1
  · have hw : whTr r (val x.wh) = (red r (val x.wh), 0) := by unfold whTr onWh; simp [h1]
    rw [hw]
    by_cases hz : zer x.fr = true
    · have := (trim_zer _).2 hz
      simp [h1, hz, this, inS_red]
    · have : ¬ trim x.fr = [] := fun hh => hz ((trim_zer _).1 hh)
      simp [h1, hz, this]
  · by_cases h2 : r.op = 2
    · have hw : whTr r (val x.wh) = (red r (val x.wh), 0) := by unfold whTr onWh; simp [h2]
      simp [hw, h2, inS_red]
    · by_cases h3 : r.op = 3
      · simp [h3, inS_red]
      · by_cases h4 : r.op = 4
        · simp [h4, inS_red]
        · by_cases h5 : r.op = 5
          · simp [h5, inS_red]
          · simp [h1, h2, h3, h4, h5, inS_red]
/-! ### The numbers that stand for all -/
theorem red_small {r : Rel} (h : relB r = true) (n : Nat) : red r (600 + n % 300 : Nat) = red r n ∨ n < 600 := by
  by_cases hn : n < 600
  · exact .inr hn
  · left
    have h1 := great_nonneg r
    have h2 := great_le h
    unfold red
    split
    · omega
    · rename_i hm
      rcases relB_md h with h0 | h0
      · exact absurd h0 hm
      · have h3 := (modsL_le h0).2.2
        obtain ⟨k, hk⟩ := Int.dvd_of_emod_eq_zero h3
        have hd : ((600 + n % 300 : Nat) : Int) = n + r.md * (k * (2 - (n / 300 : Nat))) := by
          rw [← Int.mul_assoc, ← hk]
          omega
        rw [hd, Int.add_mul_emod_self_left]
theorem red_rep (n : Nat) : ∃ m : Nat, m < 1000 ∧ ∀ r : Rel, relB r = true → red r m = red r n := by
  by_cases hn : n < 1000
  · exact ⟨n, hn, fun _ _ => rfl⟩
  · refine ⟨600 + n % 300, by omega, fun r h => ?_⟩
    rcases red_small h n with h | h
    · exact h
    · omega
/-- What a whole part and a fraction tell of a relation. -/
def clsH (r : Rel) (n : Int) (z : Bool) (t : Tr) : Bool := if r.op = 1 ∧ z = false then r.nt else if onWh r = true then trHolds r (red r n, 0) else trHolds r t
def frTr (r : Rel) (l : List Nat) : Tr := if onWh r = true then (0, 0) else readL r true (0, 0) l
theorem cls_holds {r : Rel} (h : relB r = true) (x : Num) : clsH r (val x.wh) (zer x.fr) (frTr r x.fr) = relH r x := by
  have ho := relB_op h
  rw [← tr_holds h, readL_wh h]
  unfold clsH frTr
  by_cases hw : onWh r = true
  · have ht : whTr r (val x.wh) = (red r (val x.wh), 0) := by unfold whTr; rw [if_pos hw]
    rw [ht, readL_fr h (red r (val x.wh), 0) (by simp) (by simp [hw])]
    unfold onWh at hw
    by_cases h1 : r.op = 1
    · by_cases hz : zer x.fr = true
      · simp [h1, hz, onWh]
      · simp [h1, hz, trHolds]
    · have h2 : r.op = 2 := by simp [h1] at hw; exact hw
      simp [h2, onWh]
  · have ht : whTr r (val x.wh) = (0, 0) := by unfold whTr; rw [if_neg hw]
    have h1 : r.op ≠ 1 := by intro h1; apply hw; simp [onWh, h1]
    rw [ht]
    simp [hw, h1]
theorem frTr_snoc (r : Rel) (l : List Nat) (d : Nat) : frTr r (l ++ [d]) = if onWh r = true then (0, 0) else trRead r (frTr r l) true d := by
  unfold frTr
  split
  · rfl
  · exact readL_snoc _ _ _ _ _
end Go.Proofs.YtbkcmgjmhglghaaGreatDoor
