/-
  Several texts in one.
-/
import Derived.Test.YtgefbagojghmeabRb1
import Derived.Test.YtgefbagojghmeabIs5
import Derived.Test.YtgefbagojghmeabU8W8
import Derived.Test.YtgefbagojghmeabU8N
namespace Go.Proofs.Ytgefbagojghmeab
open Go.RowKit

/-- A balanced string. -/
def balB (s : ByteArray) : Bool := cnt 0 (ints (U8.els s.data.toList)) && Lib.validD s.data.toList && decide (mh 0 (ints (U8.els s.data.toList)) ≤ 8)
def BalancedP (s : ByteArray) (w : World) (e : Ending) (w' : World) : Prop := e = .returned (.bool (balB s)) ∧ Below w.heap.size w w'

end Go.Proofs.Ytgefbagojghmeab
namespace Go.Proofs.Ytgefbagojghmeab
open Go.RowKit

theorem encS_valid (xs : List Int) : Lib.validD (encS xs).data.toList = true := by
  unfold encS
  exact U8.valid_encN _ (fun n hn => by obtain ⟨x, _, rfl⟩ := List.mem_map.1 hn; exact norm_pt x)
theorem encS_dec (xs : List Int) (h : ∀ x ∈ xs, pointB x = true) : ints (U8.els (encS xs).data.toList) = xs := by
  unfold encS
  have e : U8.els (U8.encN (xs.map norm)).toArray.toList = xs.map norm := U8.els_encN _ (fun n hn => by obtain ⟨x, _, rfl⟩ := List.mem_map.1 hn; exact norm_pt x)
  rw [e]
  unfold ints
  rw [List.map_map]
  refine (List.map_congr_left (g := id) (fun x hx => ?_)).trans (List.map_id _)
  have hp := h x hx
  show ((norm x : Nat) : Int) = x
  unfold norm
  rw [if_pos hp]
  simp [pointB] at hp
  omega
theorem els_points (s : ByteArray) : ∀ x ∈ ints (U8.els s.data.toList), pointB x = true := by
  intro x hx
  unfold ints at hx
  obtain ⟨n, hn, rfl⟩ := List.mem_map.1 hx
  have := U8.els_pt _ _ (Nat.le_refl _) n hn
  obtain ⟨h1, h2⟩ := this
  simp [pointB]
  omega
end Go.Proofs.Ytgefbagojghmeab
namespace Go.Proofs.Ytgefbagojghmeab
open Go.RowKit

theorem encS_close (xs : List Int) : encS (xs ++ [8297]) = encS xs ++ ⟨#[226, 129, 169]⟩ := by
  rw [encS_snoc]
  rfl

end Go.Proofs.Ytgefbagojghmeab
namespace Go.Proofs.Ytgefbagojghmeab
open Go.RowKit

theorem cnt_cons (h : Nat) (c : Int) (l : List Int) : cnt h (c :: l) = if initB c then cnt (h + 1) l else if termB c then (if h = 0 then false else cnt (h - 1) l) else cnt h l := rfl
theorem cnt_app : ∀ (l zs : List Int) (h : Nat), cnt h l = true → cnt h (l ++ zs) = cnt 0 zs ∧ mh h (l ++ zs) = max (mh h l) (mh 0 zs)
  | [], zs, h, hc => by
    have : h = 0 := by simpa [cnt] using hc
    subst this
    exact ⟨rfl, by simp [mh]⟩
  | c :: l, zs, h, hc => by
    rw [cnt_cons] at hc
    rw [List.cons_append, cnt_cons, mh_cons, mh_cons]
    split at hc
    · rename_i hi
      rw [if_pos hi, if_pos hi, if_pos hi]
      exact cnt_app l zs _ hc
    · rename_i hi
      rw [if_neg hi, if_neg hi, if_neg hi]
      split at hc
      · rename_i ht
        rw [if_pos ht, if_pos ht, if_pos ht]
        split at hc
        · cases hc
        · rename_i h0
          rw [if_neg h0]
          obtain ⟨h1, h2⟩ := cnt_app l zs _ hc
          exact ⟨h1, by rw [h2]; omega⟩
      · rename_i ht
        rw [if_neg ht, if_neg ht, if_neg ht]
        exact cnt_app l zs _ hc

theorem balStep_eq (x : List Bool × Nat × List Int) (c : Int) : balStep x c =
  if initB c then (if x.2.1 < 8 then (x.1 ++ [true], x.2.1 + 1, x.2.2 ++ [c]) else (x.1 ++ [false], x.2.1, x.2.2))
  else if termB c then (if x.1 = [] then x else if x.1.getLastD false then (x.1.dropLast, x.2.1 - 1, x.2.2 ++ [c]) else (x.1.dropLast, x.2.1, x.2.2))
  else (x.1, x.2.1, x.2.2 ++ [c]) := rfl
theorem keep_run : ∀ (ys : List Int) (k : Nat) (out : List Int), cnt k ys = true → mh k ys ≤ 8 → ys.foldl balStep (List.replicate k true, k, out) = ([], 0, out ++ ys)
  | [], k, out, hc, _ => by
    have : k = 0 := by simpa [cnt] using hc
    subst this
    simp
  | c :: l, k, out, hc, hm => by
    rw [cnt_cons] at hc
    rw [mh_cons] at hm
    rw [List.foldl_cons]
    rw [balStep_eq]
    split at hc
    · rename_i hi
      rw [if_pos hi] at hm
      have h9 := mh_ge l (k + 1)
      rw [if_pos hi]
      dsimp only
      rw [if_pos (by omega)]
      have := keep_run l (k + 1) (out ++ [c]) hc hm
      rw [List.replicate_succ'] at this
      rw [this]
      simp
    · rename_i hi
      rw [if_neg hi] at hm
      rw [if_neg hi]
      split at hc
      · rename_i ht
        rw [if_pos ht] at hm
        rw [if_pos ht]
        split at hc
        · cases hc
        · rename_i h0
          obtain ⟨q, rfl⟩ : ∃ q, k = q + 1 := ⟨k - 1, by omega⟩
          dsimp only
          rw [if_neg (by simp), List.replicate_succ', List.getLastD_concat, if_pos rfl, List.dropLast_concat]
          rw [show q + 1 - 1 = q from rfl] at hc hm ⊢
          rw [keep_run l q (out ++ [c]) hc (by omega)]
          simp
      · rename_i ht
        rw [if_neg ht] at hm
        rw [if_neg ht]
        dsimp only
        rw [keep_run l k (out ++ [c]) hc hm]
        simp
theorem bal_stays {xs : List Int} (hc : cnt 0 xs = true) (hm : mh 0 xs ≤ 8) : bal xs = xs := by
  unfold bal balRun
  rw [show (([], 0, []) : List Bool × Nat × List Int) = (List.replicate 0 true, 0, []) from rfl, keep_run xs 0 [] hc hm]
  simp

/-- What has been written, seen from behind. -/
def OutOk (x : List Bool × Nat × List Int) : Prop := x.1.count true = x.2.1 ∧ x.2.1 ≤ 8 ∧ ∃ m, m ≤ 8 ∧ ∀ zs, cnt 0 (x.2.2 ++ zs) = cnt x.2.1 zs ∧ mh 0 (x.2.2 ++ zs) = max m (mh x.2.1 zs)
theorem balStep_out {x : List Bool × Nat × List Int} (c : Int) (h : OutOk x) : OutOk (balStep x c) := by
  obtain ⟨h1, h2, m, h3, h4⟩ := h
  unfold balStep
  split
  · rename_i hi
    split
    · refine ⟨by simp; omega, by dsimp only; omega, m, h3, fun zs => ?_⟩
      obtain ⟨a, b⟩ := h4 (c :: zs)
      rw [cnt_cons, if_pos hi] at a
      rw [mh_cons, if_pos hi] at b
      dsimp only
      rw [List.append_assoc]
      exact ⟨a, b⟩
    · exact ⟨by simp; omega, h2, m, h3, h4⟩
  · rename_i hi
    split
    · rename_i ht
      split
      · exact ⟨h1, h2, m, h3, h4⟩
      · rename_i hne
        have hc := count_last hne
        split
        · rename_i hl
          rw [hl] at hc
          simp at hc
          refine ⟨by dsimp only; omega, by dsimp only; omega, max m x.2.1, by omega, fun zs => ?_⟩
          obtain ⟨a, b⟩ := h4 (c :: zs)
          rw [cnt_cons, if_neg hi, if_pos ht, if_neg (by omega)] at a
          rw [mh_cons, if_neg hi, if_pos ht] at b
          dsimp only
          rw [List.append_assoc]
          exact ⟨a, by rw [show [c] ++ zs = c :: zs from rfl, b]; omega⟩
        · rename_i hl
          have hl' : x.1.getLastD false = false := by simpa using hl
          rw [hl'] at hc
          simp at hc
          exact ⟨by dsimp only; omega, h2, m, h3, h4⟩
    · rename_i ht
      refine ⟨h1, h2, m, h3, fun zs => ?_⟩
      obtain ⟨a, b⟩ := h4 (c :: zs)
      rw [cnt_cons, if_neg hi, if_neg ht] at a
      rw [mh_cons, if_neg hi, if_neg ht] at b
      dsimp only
      rw [List.append_assoc]
      exact ⟨a, b⟩
theorem balFold_out : ∀ (xs : List Int) (x : List Bool × Nat × List Int), OutOk x → OutOk (xs.foldl balStep x)
  | [], _, h => h
  | c :: xs, _, h => balFold_out xs _ (balStep_out c h)
theorem term_pdi : initB 8297 = false ∧ termB 8297 = true := by decide
theorem cnt_terms : ∀ k, cnt k (List.replicate k 8297) = true ∧ mh k (List.replicate k 8297) = k
  | 0 => ⟨rfl, rfl⟩
  | k + 1 => by
    obtain ⟨a, b⟩ := cnt_terms k
    rw [List.replicate_succ, cnt_cons, mh_cons, term_pdi.1, term_pdi.2]
    exact ⟨by simpa using a, by simp [b]⟩
theorem bal_cnt (xs : List Int) : cnt 0 (bal xs) = true ∧ mh 0 (bal xs) ≤ 8 := by
  obtain ⟨_, h2, m, h3, h4⟩ := balFold_out xs ([], 0, []) ⟨rfl, by decide, 0, by decide, fun zs => ⟨rfl, by simp⟩⟩
  obtain ⟨a, b⟩ := h4 (List.replicate (balRun xs).2.1 8297)
  obtain ⟨c, d⟩ := cnt_terms (balRun xs).2.1
  have a : cnt 0 (bal xs) = cnt (balRun xs).2.1 (List.replicate (balRun xs).2.1 8297) := a
  have b : mh 0 (bal xs) = max m (mh (balRun xs).2.1 (List.replicate (balRun xs).2.1 8297)) := b
  have h2 : (balRun xs).2.1 ≤ 8 := h2
  rw [c] at a
  rw [d] at b
  exact ⟨a, by omega⟩
theorem bal_bal (xs : List Int) : bal (bal xs) = bal xs := bal_stays (bal_cnt xs).1 (bal_cnt xs).2

theorem stripL_app (a b : List Int) : stripL (a ++ b) = stripL a ++ stripL b := by unfold stripL; rw [List.filter_append]
theorem stripL_init {c : Int} (h : initB c = true) : stripL [c] = [] := by simp [stripL, h]
theorem stripL_term {c : Int} (h : termB c = true) : stripL [c] = [] := by simp [stripL, h]
theorem strip_fold : ∀ (ys : List Int) (x : List Bool × Nat × List Int), stripL (ys.foldl balStep x).2.2 = stripL x.2.2 ++ stripL ys
  | [], x => by simp [stripL]
  | c :: l, x => by
    rw [List.foldl_cons, strip_fold l, show c :: l = [c] ++ l from rfl, stripL_app, ← List.append_assoc]
    congr 1
    rw [balStep_eq]
    split
    · rename_i hi
      rw [stripL_init hi, List.append_nil]
      split
      · dsimp only
        rw [stripL_app, stripL_init hi, List.append_nil]
      · rfl
    · split
      · rename_i ht
        rw [stripL_term ht, List.append_nil]
        split
        · rfl
        · split
          · dsimp only
            rw [stripL_app, stripL_term ht, List.append_nil]
          · rfl
      · dsimp only
        rw [stripL_app]
theorem strip_bal (xs : List Int) : stripL (bal xs) = stripL xs := by
  unfold bal
  rw [stripL_app]
  have h1 : stripL (balRun xs).2.2 = stripL xs := by
    have := strip_fold xs ([], 0, [])
    exact this
  rw [h1]
  have h2 : ∀ k, stripL (List.replicate k 8297) = [] := by
    intro k
    unfold stripL
    rw [List.filter_eq_nil_iff]
    intro a ha
    rw [List.mem_replicate] at ha
    rw [ha.2, term_pdi.2]
    simp
  rw [h2, List.append_nil]

theorem pdi_point : pointB 8297 = true := by decide
theorem bal_points {xs : List Int} (h : ∀ x ∈ xs, pointB x = true) : ∀ x ∈ bal xs, pointB x = true := by
  have hf : ∀ (ys : List Int) (x : List Bool × Nat × List Int), (∀ y ∈ ys, pointB y = true) → (∀ y ∈ x.2.2, pointB y = true) → ∀ y ∈ (ys.foldl balStep x).2.2, pointB y = true := by
    intro ys
    induction ys with
    | nil => intro x _ hx; exact hx
    | cons c l ih =>
      intro x hy hx
      rw [List.foldl_cons]
      refine ih _ (fun y hm => hy y (List.mem_cons_of_mem _ hm)) ?_
      have hn : ∀ y ∈ x.2.2 ++ [c], pointB y = true := by
        intro y hm
        rcases List.mem_append.1 hm with hm | hm
        · exact hx y hm
        · simp at hm
          subst hm
          exact hy _ (List.mem_cons_self ..)
      unfold balStep
      repeat' split
      all_goals first | exact hx | exact hn
  intro y hy
  unfold bal at hy
  rcases List.mem_append.1 hy with hy | hy
  · exact hf xs _ h (by intro y hy; cases hy) y hy
  · rw [(List.mem_replicate.1 hy).2]
    exact pdi_point
/-- The balanced form of a string. -/
def balS (s : ByteArray) : ByteArray := encS (bal (ints (U8.els s.data.toList)))
theorem els_balS (s : ByteArray) : ints (U8.els (balS s).data.toList) = bal (ints (U8.els s.data.toList)) := encS_dec _ (bal_points (els_points s))
theorem balS_ok (s : ByteArray) : balB (balS s) = true := by
  unfold balB
  rw [els_balS, (bal_cnt _).1, decide_eq_true (bal_cnt _).2]
  unfold balS
  rw [encS_valid]
  rfl
theorem balS_balS (s : ByteArray) : balS (balS s) = balS s := by
  have : balS (balS s) = encS (bal (ints (U8.els (balS s).data.toList))) := rfl
  rw [this, els_balS, bal_bal]
  rfl
theorem enc_back {s : ByteArray} (h : Lib.validD s.data.toList = true) : encS (ints (U8.els s.data.toList)) = s := by
  rw [encS_els, (U8.enc_els_iff _).2 h]
theorem balS_self (s : ByteArray) : balS s = s ↔ balB s = true := by
  constructor
  · intro h
    rw [← h]
    exact balS_ok s
  · intro h
    unfold balB at h
    simp only [Bool.and_eq_true, decide_eq_true_eq] at h
    unfold balS
    rw [bal_stays h.1.1 h.2]
    exact enc_back h.1.2
end Go.Proofs.Ytgefbagojghmeab
namespace Go.Proofs.Ytgefbagojghmeab
open Go.RowKit

theorem wrapL_bytes (xs : List Int) : encS (wrapL xs) = ⟨#[226, 129, 168]⟩ ++ encS (bal xs) ++ ⟨#[226, 129, 169]⟩ := by
  unfold wrapL
  rw [encS_close, encS_app]
  rfl
theorem bal_len (xs : List Int) : (bal xs).length ≤ xs.length + 8 := by
  obtain ⟨_, h2, _, h4⟩ := balRun_ok xs
  unfold bal
  rw [List.length_append, List.length_replicate]
  omega

end Go.Proofs.Ytgefbagojghmeab
