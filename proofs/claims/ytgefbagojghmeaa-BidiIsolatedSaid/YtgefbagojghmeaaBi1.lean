/-
  Where an isolate ends: by the stack that bidi.read keeps, and by matching; without the program.
-/
import Derived.Test.YtgefbagojghmeaaBi0
namespace Go.Proofs.Ytgefbagojghmeaa
open Go.RowKit

def endOf (k : Nat) (h : Nat) (l : List Int) (d : Int) : Int := match mt h l with
  | some j => ((k + j : Nat) : Int)
  | none => d
theorem rdStep_init {n : Nat} {E : List Int} {O : List Nat} {D : Nat} {c : Int} (hc : initB c = true) : rdStep n (E, O, D) c = (E ++ [(n : Int)], O ++ [E.length], max D (O.length + 1)) := by
  unfold rdStep
  rw [if_pos hc]
  simp
theorem rdStep_term0 {n : Nat} {E : List Int} {D : Nat} {c : Int} (hc : ¬ initB c = true) (ht : termB c = true) : rdStep n (E, [], D) c = (E ++ [-1], [], D) := by
  unfold rdStep
  rw [if_neg hc, if_pos ht, if_pos rfl]
theorem rdStep_term {n : Nat} {E : List Int} {O : List Nat} {y D : Nat} {c : Int} (hc : ¬ initB c = true) (ht : termB c = true) : rdStep n (E, O ++ [y], D) c = ((E ++ [-1]).set y E.length, O, D) := by
  unfold rdStep
  rw [if_neg hc, if_pos ht, if_neg (by simp)]
  simp
theorem rdStep_else {n : Nat} {E : List Int} {O : List Nat} {D : Nat} {c : Int} (hc : ¬ initB c = true) (ht : ¬ termB c = true) : rdStep n (E, O, D) c = (E ++ [-1], O, D) := by
  unfold rdStep
  rw [if_neg hc, if_neg ht]
theorem getD_app {E : List Int} {v : Int} {i : Nat} (h : i < E.length) : (E ++ [v]).getD i 0 = E.getD i 0 := by
  simp [List.getD, List.getElem?_append_left h]
theorem getD_app_end (E : List Int) (v : Int) : (E ++ [v]).getD E.length 0 = v := by simp [List.getD]
theorem getD_set_ne {E : List Int} {v : Int} {i j : Nat} (h : j ≠ i) : (E.set j v).getD i 0 = E.getD i 0 := by
  simp [List.getD, List.getElem?_set_ne h]
theorem getD_set_eq {E : List Int} {v : Int} {i : Nat} (h : i < E.length) : (E.set i v).getD i 0 = v := by
  simp [List.getD, h]
theorem rd_ends (n : Nat) : ∀ (ys E : List Int) (O : List Nat) (D : Nat), (∀ o ∈ O, o < E.length) → O.Pairwise (· < ·) →
    (∀ i, i < E.length → i ∉ O → (ys.foldl (rdStep n) (E, O, D)).1.getD i 0 = E.getD i 0) ∧
    (∀ O1 o O2, O = O1 ++ o :: O2 → (ys.foldl (rdStep n) (E, O, D)).1.getD o 0 = endOf E.length (O2.length + 1) ys (E.getD o 0)) ∧
    (∀ q, q < ys.length → (ys.foldl (rdStep n) (E, O, D)).1.getD (E.length + q) 0 = if initB (ys.getD q 0) then endOf (E.length + q + 1) 1 (ys.drop (q + 1)) n else -1)
  | [], E, O, D, _, _ => ⟨fun _ _ _ => rfl, fun _ _ _ _ => rfl, fun q h => by simp at h⟩
  | c :: ys, E, O, D, hO, hP => by
    rw [List.foldl_cons]
    by_cases hc : initB c = true
    · rw [rdStep_init hc]
      obtain ⟨a1, a2, a3⟩ := rd_ends n ys (E ++ [(n : Int)]) (O ++ [E.length]) (max D (O.length + 1)) (by
        intro o ho
        rw [List.length_append]
        rcases List.mem_append.1 ho with h | h
        · have := hO o h; simp; omega
        · simp at h; simp; omega) (by
        rw [List.pairwise_append]
        exact ⟨hP, by simp, fun a ha b hb => by simp at hb; subst hb; exact hO a ha⟩)
      refine ⟨fun i hi hn => ?_, fun O1 o O2 he => ?_, fun q hq => ?_⟩
      · rw [a1 i (by simp; omega) (by simp; exact ⟨hn, by omega⟩), getD_app hi]
      · have ho : o < E.length := hO o (by rw [he]; simp)
        rw [a2 O1 o (O2 ++ [E.length]) (by rw [he]; simp), getD_app ho]
        unfold endOf
        rw [mt, if_pos hc, List.length_append, List.length_append, List.length_singleton, List.length_singleton]
        cases mt (O2.length + 1 + 1) ys with
        | none => rfl
        | some j => show ((E.length + 1 + j : Nat) : Int) = ((E.length + (j + 1) : Nat) : Int); omega
      · cases q with
        | zero =>
          rw [show E.length + 0 = E.length from rfl, a2 O E.length [] rfl, getD_app_end]
          show endOf (E ++ [(n : Int)]).length 1 ys n = if initB c then _ else _
          rw [if_pos hc, List.length_append, List.length_singleton]
          rfl
        | succ q =>
          have := a3 q (by simpa using hq)
          rw [List.length_append, List.length_singleton] at this
          rw [show E.length + (q + 1) = E.length + 1 + q by omega, this]
          rfl
    · by_cases ht : termB c = true
      · by_cases hOn : O = []
        · subst hOn
          rw [rdStep_term0 hc ht]
          obtain ⟨a1, a2, a3⟩ := rd_ends n ys (E ++ [-1]) [] D (fun o ho => by cases ho) List.Pairwise.nil
          refine ⟨fun i hi hn => ?_, fun O1 o O2 he => ?_, fun q hq => ?_⟩
          · rw [a1 i (by simp; omega) hn, getD_app hi]
          · simp at he
          · cases q with
            | zero =>
              rw [show E.length + 0 = E.length from rfl, a1 E.length (by simp) (by simp), getD_app_end]
              show -1 = if initB c then _ else _
              rw [if_neg hc]
            | succ q =>
              have := a3 q (by simpa using hq)
              rw [List.length_append, List.length_singleton] at this
              rw [show E.length + (q + 1) = E.length + 1 + q by omega, this]
              rfl
        · obtain ⟨O', y, rfl⟩ : ∃ O' y, O = O' ++ [y] := ⟨_, _, (List.dropLast_concat_getLast hOn).symm⟩
          have hy : y < E.length := hO y (by simp)
          have hP' := List.pairwise_append.1 hP
          have hyn : ∀ o ∈ O', o < y := fun o ho => hP'.2.2 o ho y (by simp)
          rw [rdStep_term hc ht]
          obtain ⟨a1, a2, a3⟩ := rd_ends n ys ((E ++ [-1]).set y E.length) O' D (by
            intro o ho
            have := hO o (by simp [ho])
            simp; omega) hP'.1
          refine ⟨fun i hi hn => ?_, fun O1 o O2 he => ?_, fun q hq => ?_⟩
          · simp at hn
            rw [a1 i (by simp; omega) hn.1, getD_set_ne (fun e => hn.2 e.symm), getD_app hi]
          · rcases List.eq_nil_or_concat O2 with rfl | ⟨O3, z, rfl⟩
            · have he2 : O' = O1 ∧ y = o := by
                have := List.append_inj_left' he rfl
                have h2 := List.append_inj_right' he rfl
                simp at h2
                exact ⟨this, h2⟩
              obtain ⟨rfl, rfl⟩ := he2
              rw [a1 y (by simp; omega) (fun h => by have := hyn y h; omega), getD_set_eq (by simp; omega)]
              unfold endOf
              rw [mt, if_neg hc, if_pos ht, if_pos (by simp)]
              show ((E.length : Nat) : Int) = ((E.length + 0 : Nat) : Int)
              rfl
            · have he2 : O' = O1 ++ o :: O3 ∧ y = z := by
                have he : O' ++ [y] = (O1 ++ o :: O3) ++ [z] := by rw [he]; simp
                have := List.append_inj_left' he rfl
                have h2 := List.append_inj_right' he rfl
                simp at h2
                exact ⟨this, h2⟩
              obtain ⟨rfl, rfl⟩ := he2
              have hoy := hyn o (by simp)
              simp only [List.concat_eq_append]
              rw [a2 O1 o O3 rfl, getD_set_ne (by omega), getD_app (by omega)]
              unfold endOf
              rw [mt, if_neg hc, if_pos ht, List.length_append, List.length_singleton, if_neg (by omega), show O3.length + 1 + 1 - 1 = O3.length + 1 by omega, List.length_set, List.length_append, List.length_singleton]
              cases mt (O3.length + 1) ys with
              | none => rfl
              | some j => show ((E.length + 1 + j : Nat) : Int) = ((E.length + (j + 1) : Nat) : Int); omega
          · cases q with
            | zero =>
              rw [show E.length + 0 = E.length from rfl, a1 E.length (by simp) (fun h => by have := hyn _ h; omega), getD_set_ne (by omega), getD_app_end]
              show -1 = if initB c then _ else _
              rw [if_neg hc]
            | succ q =>
              have := a3 q (by simpa using hq)
              rw [List.length_set, List.length_append, List.length_singleton] at this
              rw [show E.length + (q + 1) = E.length + 1 + q by omega, this]
              rfl
      · rw [rdStep_else hc ht]
        obtain ⟨a1, a2, a3⟩ := rd_ends n ys (E ++ [-1]) O D (by
          intro o ho
          have := hO o ho
          simp; omega) hP
        refine ⟨fun i hi hn => ?_, fun O1 o O2 he => ?_, fun q hq => ?_⟩
        · rw [a1 i (by simp; omega) hn, getD_app hi]
        · have ho : o < E.length := hO o (by rw [he]; simp)
          rw [a2 O1 o O2 he, getD_app ho]
          unfold endOf
          rw [mt, if_neg hc, if_neg ht, List.length_append, List.length_singleton]
          cases mt (O2.length + 1) ys with
          | none => rfl
          | some j => show ((E.length + 1 + j : Nat) : Int) = ((E.length + (j + 1) : Nat) : Int); omega
        · cases q with
          | zero =>
            rw [show E.length + 0 = E.length from rfl, a1 E.length (by simp) (fun h => by have := hO _ h; omega), getD_app_end]
            show -1 = if initB c then _ else _
            rw [if_neg hc]
          | succ q =>
            have := a3 q (by simpa using hq)
            rw [List.length_append, List.length_singleton] at this
            rw [show E.length + (q + 1) = E.length + 1 + q by omega, this]
            rfl
theorem rdRun_end (xs : List Int) (i : Nat) (hi : i < xs.length) : (rdRun xs.length xs).1.getD i 0 = if initB (xs.getD i 0) then ((matchV xs i : Nat) : Int) else -1 := by
  have := (rd_ends xs.length xs [] [] 0 (fun o ho => by cases ho) List.Pairwise.nil).2.2 i hi
  rw [List.length_nil, Nat.zero_add] at this
  unfold rdRun
  rw [this]
  by_cases hx : initB (xs.getD i 0) = true
  · rw [if_pos hx, if_pos hx, matchV_init hi hx]
    unfold endOf
    cases mt 1 (xs.drop (i + 1)) <;> rfl
  · rw [if_neg hx, if_neg hx]
end Go.Proofs.Ytgefbagojghmeaa
