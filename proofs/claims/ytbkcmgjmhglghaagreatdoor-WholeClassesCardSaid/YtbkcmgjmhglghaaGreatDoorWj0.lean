/-
  Plain: the texts of numbers.
-/
import Derived.Test.YtbkcmgjmhglghaaGreatDoorWe1
import Derived.Test.YtbkcmgjmhglghaaGreatDoorWsh
import Derived.Shelf.Strings.SlTrimAscii
namespace Go.Proofs.YtbkcmgjmhglghaaGreatDoor
open Go.RowKit

theorem symB_ne {d : Nat} (h : d < 10) : symB d ≠ 46 := by
  intro e
  have h1 := symB_nat (c := d) (by omega)
  rw [e] at h1
  unfold symN at h1
  rw [if_neg (by omega)] at h1
  have : (46 : UInt8).toNat = 46 := rfl
  omega
theorem symB_ne45 {d : Nat} (h : d < 11) : symB d ≠ 45 := by
  intro e
  have h1 := symB_nat (c := d) h
  rw [e] at h1
  unfold symN at h1
  have : (45 : UInt8).toNat = 45 := rfl
  split at h1 <;> omega
theorem numS_list (u : List Nat) : (numS u).data.toList = u.map symB := by simp [numS]
theorem idx_dig (u : List Nat) (hu : Digs u) (r : List UInt8) : Lib.indexByte (u.map symB ++ r) 46 = if Lib.indexByte r 46 = -1 then -1 else u.length + Lib.indexByte r 46 := by
  induction u with
  | nil => simp
  | cons d u ih =>
    have hd := symB_ne (hu d List.mem_cons_self)
    have ih' := ih fun x hx => hu x (List.mem_cons_of_mem _ hx)
    simp only [List.map_cons, List.cons_append, Lib.indexByte]
    rw [if_neg (by simpa using hd), ih']
    by_cases h : Lib.indexByte r 46 = -1
    · simp [h]
    · rw [if_neg h]
      have hge := Lib.indexByte_ge r 46
      rw [if_neg (by simp; omega)]
      simp
      omega
theorem cut_num {x : Num} (hx : x.OK) : Lib.cut (numS (syms x)).data.toList [46] = (x.wh.map symB, x.fr.map symB, !decide (x.fr = [])) := by
  rw [numS_list]
  unfold Lib.cut
  rw [Lib.index_one]
  unfold syms
  by_cases hf : x.fr = []
  · rw [if_pos hf]
    have h1 := idx_dig x.wh hx.1 []
    rw [List.append_nil] at h1
    have h2 : Lib.indexByte [] 46 = -1 := rfl
    rw [h1, h2]
    simp [hf]
  · rw [if_neg hf, List.map_append, List.map_cons]
    have h1 := idx_dig x.wh hx.1 (symB 10 :: x.fr.map symB)
    have h2 : Lib.indexByte (symB 10 :: x.fr.map symB) 46 = 0 := by
      simp only [Lib.indexByte]
      rw [if_pos (by decide)]
    rw [h1, h2]
    have h3 : (x.wh.map symB ++ symB 10 :: x.fr.map symB).drop (x.wh.length + 1) = x.fr.map symB := by
      rw [List.drop_append, List.drop_eq_nil_of_le (by simp), List.length_map, List.nil_append, show x.wh.length + 1 - x.wh.length = 1 from by omega]
      rfl
    simp [hf, h3]
theorem not_minus {x : Num} (hx : x.OK) : Lib.hasPrefix (numS (syms x)).data.toList [45] = false ∧ Lib.trimPrefix (numS (syms x)).data.toList [45] = (numS (syms x)).data.toList := by
  rw [numS_list]
  have h1 := syms_lt hx
  have key : ∀ u : List Nat, (∀ c ∈ u, c < 11) → Lib.hasPrefix (u.map symB) [45] = false := by
    intro u hu
    cases u with
    | nil => rfl
    | cons c u =>
      have := symB_ne45 (hu c List.mem_cons_self)
      simp [Lib.hasPrefix, List.isPrefixOf]
      exact fun h => this h.symm
  have h2 := key _ h1
  exact ⟨h2, by unfold Lib.trimPrefix; rw [h2]; rfl⟩
theorem symB_digit {d : Nat} (h : d < 10) : ([48, 49, 50, 51, 52, 53, 54, 55, 56, 57] : List UInt8).contains (symB d) = true := by
  rcases (show d = 0 ∨ d = 1 ∨ d = 2 ∨ d = 3 ∨ d = 4 ∨ d = 5 ∨ d = 6 ∨ d = 7 ∨ d = 8 ∨ d = 9 by omega) with rfl | rfl | rfl | rfl | rfl | rfl | rfl | rfl | rfl | rfl <;> decide
theorem trim_digits {u : List Nat} (h : Digs u) : Lib.trimS (u.map symB) [48, 49, 50, 51, 52, 53, 54, 55, 56, 57] = [] := by
  have key : ∀ l : List UInt8, (∀ b ∈ l, ([48, 49, 50, 51, 52, 53, 54, 55, 56, 57] : List UInt8).contains b = true) → l.dropWhile (([48, 49, 50, 51, 52, 53, 54, 55, 56, 57] : List UInt8).contains ·) = [] := by
    intro l hl
    induction l with
    | nil => rfl
    | cons b l ih =>
      rw [List.dropWhile_cons, if_pos (hl b List.mem_cons_self)]
      exact ih fun b hb => hl b (List.mem_cons_of_mem _ hb)
  unfold Lib.trimS Lib.trimLeftS Lib.trimRightS
  rw [key (u.map symB).reverse (by
    intro b hb
    rw [List.mem_reverse] at hb
    obtain ⟨d, hd, rfl⟩ := List.mem_map.1 hb
    exact symB_digit (h d hd))]
  rfl
theorem trimR_num (u : List Nat) (h : Digs u) : Lib.trimRightB (u.map symB) 48 = (trim u).map symB := by
  unfold Lib.trimRightB trim
  rw [← List.map_reverse, List.map_reverse, List.map_reverse]
  congr 1
  rw [← List.map_reverse]
  have hr : ∀ d ∈ u.reverse, d < 10 := fun d hd => h d (List.mem_reverse.1 hd)
  generalize u.reverse = v at hr
  induction v with
  | nil => rfl
  | cons d v ih =>
    have hd := hr d List.mem_cons_self
    simp only [List.map_cons, List.dropWhile_cons]
    by_cases h0 : d = 0
    · subst h0
      have e : (symB 0 == 48) = true := by decide
      rw [e]
      simp only [if_true]
      exact ih fun x hx => hr x (List.mem_cons_of_mem _ hx)
    · have e : (symB d == 48) = false := by
        rw [beq_eq_false_iff_ne]
        intro e
        have h1 := symB_nat (c := d) (by omega)
        rw [e] at h1
        unfold symN at h1
        rw [if_neg (by omega)] at h1
        have : (48 : UInt8).toNat = 48 := rfl
        omega
      rw [e]
      simp [h0]
theorem decFrom_dig (u : List Nat) (h : Digs u) (a : Nat) : Lib.decFrom a (u.map symB) = some (u.foldl (fun a d => 10 * a + d) a) := by
  induction u generalizing a with
  | nil => rfl
  | cons d u ih =>
    have hd := h d List.mem_cons_self
    have e : Lib.digitVal (symB d) = some d := by
      unfold Lib.digitVal
      rw [symB_nat (by omega)]
      have e2 : symN d = 48 + d := by unfold symN; rw [if_neg (by omega)]
      rw [e2, if_pos (by omega)]
      congr 1
      omega
    simp only [List.map_cons, Lib.decFrom, e, List.foldl_cons]
    rw [ih fun x hx => h x (List.mem_cons_of_mem _ hx), Nat.mul_comm]
theorem atoi_dig (u : List Nat) (h : Digs u) : Lib.atoi (48 :: u.map symB) = some ((val u : Nat) : Int) := by
  have h1 := decFrom_dig (0 :: u) (fun x hx => by
    rcases List.mem_cons.1 hx with rfl | hx
    · omega
    · exact h x hx) 0
  have e0 : (0 :: u).map symB = 48 :: u.map symB := by
    rw [List.map_cons]
    rfl
  rw [e0] at h1
  unfold Lib.atoi
  simp only
  rw [if_neg (by decide), if_neg (by decide)]
  unfold Lib.decNat
  rw [if_neg (by simp), h1]
  rfl
theorem trim_digs {u : List Nat} (h : Digs u) : Digs (trim u) := by
  intro d hd
  unfold trim at hd
  rw [List.mem_reverse] at hd
  exact h d (List.mem_reverse.1 ((List.dropWhile_sublist _).mem hd))
theorem trim_len (u : List Nat) : (trim u).length ≤ u.length := by
  unfold trim
  rw [List.length_reverse]
  have := (List.dropWhile_sublist (p := fun x => x == 0) (l := u.reverse)).length_le
  rwa [List.length_reverse] at this
theorem val_lt (u : List Nat) (h : Digs u) : val u < 10 ^ u.length := by
  induction u using snoc_ind with
  | h0 => decide
  | h l d ih =>
    have h1 := ih fun x hx => h x (List.mem_append_left _ hx)
    have h2 := h d (by simp)
    rw [val_snoc, List.length_append, List.length_singleton, Nat.pow_succ]
    omega
end Go.Proofs.YtbkcmgjmhglghaaGreatDoor
