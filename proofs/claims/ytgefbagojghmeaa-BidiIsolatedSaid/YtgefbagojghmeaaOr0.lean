/-
  The visual order of levels, without the program.
-/
import Derived.Test.YtgefbagojghmeaaBi4
namespace Go.Proofs.Ytgefbagojghmeaa
open Go.RowKit

/-- The maximal runs of elements with p, each reversed; acc: the run so far, reversed. -/
def rr (p : Nat → Bool) : List Nat → List Nat → List Nat
  | acc, [] => acc
  | acc, x :: l => if p x then rr p (x :: acc) l else acc ++ x :: rr p [] l
def atLeast (lv : List Int) (n : Nat) (i : Nat) : Bool := decide ((n : Int) ≤ lv.getD i 0)
def stepO (lv : List Int) (n : Nat) (l : List Nat) : List Nat := rr (atLeast lv n) [] l
def ordN (lv : List Int) : Nat → List Nat → List Nat
  | 0, l => l
  | n + 1, l => ordN lv n (stepO lv (n + 1) l)
def okLv (lv : List Int) : Bool := lv.all fun e => decide (0 ≤ e ∧ e ≤ 100)
/-- The order. -/
def order (lv : List Int) : List Nat := if okLv lv then ordN lv 100 (List.range lv.length) else []

theorem rr_none (p : Nat → Bool) : ∀ (l acc : List Nat), (∀ x ∈ l, p x = false) → rr p acc l = acc ++ l
  | [], acc, _ => by simp [rr]
  | x :: l, acc, h => by
    rw [rr, h x (List.mem_cons_self ..), if_neg (by decide), rr_none p l [] fun y hy => h y (List.mem_cons_of_mem _ hy)]
    rfl
theorem rr_run (p : Nat → Bool) : ∀ (run acc rest : List Nat), (∀ x ∈ run, p x = true) → (rest = [] ∨ ∃ y r, rest = y :: r ∧ p y = false) → rr p acc (run ++ rest) = run.reverse ++ acc ++ rr p [] rest
  | [], acc, rest, _, h => by
    rcases h with rfl | ⟨y, r, rfl, hy⟩
    · simp [rr]
    · rw [List.nil_append, rr, rr, hy]
      simp
  | x :: run, acc, rest, h, hr => by
    rw [List.cons_append, rr, h x (List.mem_cons_self ..), if_pos rfl, rr_run p run (x :: acc) rest (fun y hy => h y (List.mem_cons_of_mem _ hy)) hr]
    simp
theorem rr_perm (p : Nat → Bool) : ∀ (l acc : List Nat), (rr p acc l).Perm (acc ++ l)
  | [], acc => by simp [rr]
  | x :: l, acc => by
    rw [rr]
    split
    · refine (rr_perm p l (x :: acc)).trans ?_
      rw [List.cons_append]
      exact List.perm_middle.symm
    · exact List.Perm.append_left acc ((rr_perm p l []).cons x)
theorem stepO_perm (lv : List Int) (n : Nat) (l : List Nat) : (stepO lv n l).Perm l := rr_perm _ l []
theorem ordN_perm (lv : List Int) : ∀ (n : Nat) (l : List Nat), (ordN lv n l).Perm l
  | 0, l => .refl l
  | n + 1, l => (ordN_perm lv n _).trans (stepO_perm lv _ l)
theorem ordN_len (lv : List Int) (n : Nat) (l : List Nat) : (ordN lv n l).length = l.length := (ordN_perm lv n l).length_eq
theorem stepO_same {lv : List Int} {n : Nat} {l : List Nat} (h : ∀ i ∈ l, lv.getD i 0 < n) : stepO lv n l = l := by
  unfold stepO
  rw [rr_none]
  · rfl
  · intro x hx
    have := h x hx
    unfold atLeast
    exact decide_eq_false (by omega)
theorem ordN_high {lv : List Int} {g : Nat} : ∀ (n : Nat) (l : List Nat), g ≤ n → (∀ i ∈ l, lv.getD i 0 ≤ g) → ordN lv n l = ordN lv g l
  | 0, l, h, _ => by
    have : g = 0 := by omega
    subst this
    rfl
  | n + 1, l, h, hl => by
    by_cases hg : g = n + 1
    · subst hg
      rfl
    · rw [ordN, stepO_same (fun i hi => by have := hl i hi; omega)]
      exact ordN_high n l (by omega) hl
/-- One element of a step that is not in a run. -/
theorem rr_not {p : Nat → Bool} {x : Nat} {l : List Nat} (h : p x = false) : rr p [] (x :: l) = x :: rr p [] l := by
  rw [rr, h]
  rfl
end Go.Proofs.Ytgefbagojghmeaa
