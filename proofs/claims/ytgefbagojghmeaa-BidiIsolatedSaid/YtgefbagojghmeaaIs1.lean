/-
  The balanced form of a list of elements, without the program; rows of the call's own beside a builder.
-/
import Derived.Test.YtgefbagojghmeaaU8W17
import Derived.Test.YtgefbagojghmeaaU8W8
import Derived.Test.YtgefbagojghmeaaBld3
namespace Go.Proofs.Ytgefbagojghmeaa
open Go.RowKit

def initB (c : Int) : Bool := decide (8294 ≤ c ∧ c ≤ 8296)
def termB (c : Int) : Bool := decide (c = 8297)
/-- One element: the open initiators (whether each was kept), how many were kept, and what is written. -/
def balStep (x : List Bool × Nat × List Int) (c : Int) : List Bool × Nat × List Int :=
  if initB c then (if x.2.1 < 8 then (x.1 ++ [true], x.2.1 + 1, x.2.2 ++ [c]) else (x.1 ++ [false], x.2.1, x.2.2))
  else if termB c then (if x.1 = [] then x else if x.1.getLastD false then (x.1.dropLast, x.2.1 - 1, x.2.2 ++ [c]) else (x.1.dropLast, x.2.1, x.2.2))
  else (x.1, x.2.1, x.2.2 ++ [c])
def balRun (xs : List Int) : List Bool × Nat × List Int := xs.foldl balStep ([], 0, [])
def bal (xs : List Int) : List Int := (balRun xs).2.2 ++ List.replicate (balRun xs).2.1 8297
theorem balRun_snoc (xs : List Int) (c : Int) : balRun (xs ++ [c]) = balStep (balRun xs) c := by simp [balRun]
theorem balRun_more {xs : List Int} {k : Nat} (hk : k < xs.length) : balRun (xs.take (k + 1)) = balStep (balRun (xs.take k)) (xs.getD k 0) := by
  rw [take_more hk, balRun_snoc]
theorem count_last {l : List Bool} (h : l ≠ []) : l.count true = l.dropLast.count true + (if l.getLastD false then 1 else 0) := by
  obtain ⟨ys, y, rfl⟩ : ∃ ys y, l = ys ++ [y] := ⟨_, _, (List.dropLast_concat_getLast h).symm⟩
  cases y <;> simp
def BalOk (n : Nat) (x : List Bool × Nat × List Int) : Prop := x.1.count true = x.2.1 ∧ x.2.1 ≤ 8 ∧ x.1.length ≤ n ∧ x.2.2.length ≤ n
theorem balStep_ok {n : Nat} {x : List Bool × Nat × List Int} (c : Int) (h : BalOk n x) : BalOk (n + 1) (balStep x c) := by
  obtain ⟨h1, h2, h3, h4⟩ := h
  unfold balStep BalOk
  split
  · split
    · simp; omega
    · simp; omega
  · split
    · split
      · exact ⟨h1, h2, by omega, by omega⟩
      · rename_i hne
        have hc := count_last hne
        split
        · rename_i hl
          rw [hl] at hc
          simp at hc ⊢
          omega
        · rename_i hl
          have hl' : x.1.getLastD false = false := by simpa using hl
          rw [hl'] at hc
          simp at hc ⊢
          omega
    · simp; omega
theorem balFold_ok : ∀ (xs : List Int) (n : Nat) (x : List Bool × Nat × List Int), BalOk n x → BalOk (n + xs.length) (xs.foldl balStep x)
  | [], _, _, h => h
  | c :: xs, n, x, h => by
    have := balFold_ok xs (n + 1) (balStep x c) (balStep_ok c h)
    rw [List.foldl_cons, List.length_cons, show n + (xs.length + 1) = n + 1 + xs.length by omega]
    exact this
theorem balRun_ok (xs : List Int) : BalOk xs.length (balRun xs) := by
  have := balFold_ok xs 0 ([], 0, []) ⟨rfl, by decide, Nat.le_refl _, Nat.le_refl _⟩
  rwa [Nat.zero_add] at this

theorem encS_data (xs : List Int) : Lib.strCells (encS xs) = Lib.byteCells (encL xs) := rfl
theorem encL_app (xs ys : List Int) : encL (xs ++ ys) = encL xs ++ encL ys := by
  unfold encL
  rw [List.map_append, U8.encN_append]
theorem encS_app (xs ys : List Int) : encS (xs ++ ys) = encS xs ++ encS ys := by
  unfold encS
  rw [List.map_append, U8.encN_append]
  apply ByteArray.ext
  show _ = (_ ++ _ : ByteArray).data
  rw [ByteArray.data_append]
  simp

theorem own_kept {e : TypeId} {base B b sz n : Nat} {v : Value} {bs xs : List Value} {w w' : World} (h : w.ownsRow base e sz v n xs) (hB : Bld B b bs w) (ho : Lib.OthersKept 5 (some b) w w') (h1 : e ≠ 5) (h2 : e ≠ 62) : w'.ownsRow base e sz v n xs := by
  obtain ⟨hl, h0 | ⟨g, cap, cur, rfl, hbg, hg, r⟩⟩ := h
  · exact ⟨hl, .inl h0⟩
  · refine ⟨hl, .inr ⟨g, cap, cur, rfl, hbg, ho g _ hg ?_ ?_, r⟩⟩
    · intro hk
      cases hk
      obtain ⟨p, hB1, u, hbk, _⟩ : ∃ p, Lib.BuilderAtF 62 5 B b p bs w := by
        rcases hB with h | h
        · exact ⟨_, h⟩
        · exact ⟨_, h⟩
      rw [hbk] at hg
      cases hg
      exact h2 rfl
    · intro c fz hc
      cases hc
      exact h1 rfl
theorem own_kind {w : World} {B : Nat} {e : TypeId} {sz n : Nat} {v : Value} {xs : List Value} (h : w.ownsRow B e sz v n xs) : ∀ g, v.ownBlock = some g → ∃ c fz, w.heap[g]? = some (.cells c e fz) := by
  intro g hg
  rcases h.2 with ⟨rfl, _⟩ | ⟨g', cap, cur, rfl, _, hgg, _⟩
  · simp [Value.ownBlock] at hg
  · simp [Value.ownBlock] at hg
    subst hg
    exact ⟨cur, _, hgg⟩
theorem own_from {w : World} {B : Nat} {e : TypeId} {sz n : Nat} {v : Value} {xs : List Value} (h : w.ownsRow B e sz v n xs) : ∀ g, v.ownBlock = some g → B ≤ g := by
  intro g hg
  rcases h.2 with ⟨rfl, _⟩ | ⟨g', cap, cur, rfl, hb, _⟩
  · simp [Value.ownBlock] at hg
  · simp [Value.ownBlock] at hg
    omega
theorem own_keep {w w' : World} {B : Nat} {e : TypeId} {sz n : Nat} {v : Value} {xs : List Value} (h : w.ownsRow B e sz v n xs) (hb : Below w.heap.size w w') : w'.ownsRow B e sz v n xs := by
  obtain ⟨hl, h0 | ⟨g, cap, cur, rfl, hbg, hg, r⟩⟩ := h
  · exact ⟨hl, .inl h0⟩
  · exact ⟨hl, .inr ⟨g, cap, cur, rfl, hbg, by rw [hb.block g (Array.getElem?_eq_some_iff.1 hg).1]; exact hg, r⟩⟩
theorem own_grown {w w' : World} {B : Nat} {e : TypeId} {sz n : Nat} {v : Value} {xs : List Value} (h : w.ownsRow B e sz v n xs) {r : Option Nat} {e' : TypeId} (hg : w.grownBy w' r) (hr : ∀ g, r = some g → ∃ c fz, w.heap[g]? = some (.cells c e' fz)) (hne : e' ≠ e) : w'.ownsRow B e sz v n xs := by
  obtain ⟨hl, h0 | ⟨g, cap, cur, rfl, hbg, hgg, q⟩⟩ := h
  · exact ⟨hl, .inl h0⟩
  · refine ⟨hl, .inr ⟨g, cap, cur, rfl, hbg, ?_, q⟩⟩
    rw [hg.block g (Array.getElem?_eq_some_iff.1 hgg).1 ?_]
    · exact hgg
    · intro hk
      obtain ⟨c, fz, hc⟩ := hr g hk.symm
      rw [hgg] at hc
      cases hc
      exact hne rfl
/-- The row's last cell taken away. -/
theorem own_less {w : World} {B : Nat} {e : TypeId} {ao : Option Addr} {n cap : Nat} {xs : List Value} (h : w.ownsRow B e 1 (.slice ao (n + 1) cap) (n + 1) xs) : w.ownsRow B e 1 (.slice ao n cap) n xs.dropLast := by
  obtain ⟨hl, ⟨h0, h1⟩ | ⟨g, cap', cur, hv, hbg, hg, h1, h2, h3, h4⟩⟩ := h
  · cases h1
  · cases hv
    refine ⟨by rw [List.length_dropLast]; omega, .inr ⟨g, cap, cur, rfl, hbg, hg, by omega, h2, h3, ?_⟩⟩
    rw [← h4, List.dropLast_eq_take, List.take_take, List.length_take]
    congr 1
    simp at h3 ⊢
    omega
/-- The row's last cell. -/
theorem own_last {w : World} {B : Nat} {e : TypeId} {ao : Option Addr} {n cap : Nat} {xs : List Value} (h : w.ownsRow B e 1 (.slice ao (n + 1) cap) (n + 1) xs) (v : Value) (hv : xs[n]? = some v) : ∃ g, ao = some ⟨g, 0, none⟩ ∧ w.cell? ⟨g, n, none⟩ = some v := by
  have h' := h
  obtain ⟨hl, ⟨h0, h1⟩ | ⟨g, cap', cur, hv', hbg, hg, h1, h2, h3, h4⟩⟩ := h
  · cases h1
  · cases hv'
    refine ⟨g, rfl, ?_⟩
    have := h'.cells (g := g) rfl n v hv
    have e : (⟨g, 0, none⟩ : Addr).add n = ⟨g, n, none⟩ := by unfold Addr.add; split <;> simp_all
    rwa [e] at this
end Go.Proofs.Ytgefbagojghmeaa
