/-
  A law of my own over the model of a range over a function: the iterator keeps state in memory cells of its own while it yields. What the caller's invariant says must abide any change at or beyond the heap's size when the loop began; a round must keep all that lies there.
-/
import Derived.RangeFuncNested
import Derived.RangeFuncBound
import Derived.RangeFuncCalls
import Derived.RangeFuncLeaves
namespace Go.Proofs.YtflfdkjbpbjghaaDoor
namespace Rf
open Go Go.RowKit

/-- J abides whatever change at or beyond block number B. -/
def Stays {β : Type} (B : Nat) (J : β → World → Prop) : Prop :=
  ∀ s W W' row, J s W → W.grownBy W' row → (∀ r, row = some r → B ≤ r) → J s W'
theorem Stays.mono {β : Type} {B B' : Nat} {J : β → World → Prop} (h : Stays B J) (hB : B ≤ B') : Stays B' J :=
  fun s W W' row hs hg hr => h s W W' row hs hg (fun r e => Nat.le_trans hB (hr r e))
/-- All that lies at or beyond block number B lies as it lay. -/
def Kept (B : Nat) (W W' : World) : Prop := W.heap.size ≤ W'.heap.size ∧ ∀ k, B ≤ k → k < W.heap.size → W'.heap[k]? = W.heap[k]?
theorem Kept.refl (B : Nat) (W : World) : Kept B W W := ⟨Nat.le_refl _, fun _ _ _ => rfl⟩
theorem Kept.trans {B : Nat} {X Y Z : World} (h : Kept B X Y) (k : Kept B Y Z) : Kept B X Z :=
  ⟨Nat.le_trans h.1 k.1, fun i hB hi => (k.2 i hB (by have := h.1; omega)).trans (h.2 i hB hi)⟩
theorem Kept.mono {B B' : Nat} {X Y : World} (h : Kept B X Y) (hB : B ≤ B') : Kept B' X Y := ⟨h.1, fun i hi => h.2 i (by omega)⟩
theorem Kept.at_ {B : Nat} {X Y : World} (h : Kept B X Y) {k : Nat} {o : Obj} (hB : B ≤ k) (hk : X.heap[k]? = some o) : Y.heap[k]? = some o :=
  (h.2 k hB (Array.getElem?_eq_some_iff.1 hk).1).trans hk

variable {F : Fence} {n : Nat} {P : Program}

/-- What an iterator promises, that keeps blocks of its own. -/
def Iter {α : Type} (F : Fence) (n : Nat) (P : Program) (g : Nat) (lb : Array Value) (encs : α → Array Value) (L : List α) (w : World) : Prop :=
  ∀ (l : Nat) (J Jx : List α → World → Prop) (W : World), Below w.heap.size w W → Stays W.heap.size J → Stays W.heap.size Jx →
    (∀ pre x A, J pre A → (pre ++ [x]) <+: L → YieldAt F (n - 1) P l (encs x) A fun e A' =>
      (e = .returned (.bool true) ∧ J (pre ++ [x]) A' ∧ Kept W.heap.size A A') ∨ (e = .returned (.bool false) ∧ Jx (pre ++ [x]) A')) →
    J [] W →
    CallsIn F n P g (#[.func (.yield l) #[] #[]] ++ lb) W fun e W' => (∃ v, e = .returned v) ∧ (J L W' ∨ ∃ pre, pre <+: L ∧ Jx pre W')

/-- How a round may be left. -/
def Post {α : Type} (B : Nat) (I Ix : List α → World → Prop) (xs : List α) (W : World) : Exit → Act → World → Prop
  | .normal, _, W' => Kept B W W' ∧ I xs W'
  | .ret, _, W' => Kept B W W' ∧ Ix xs W'
  | _, _, _ => False

/-- THE STATEMENT, over such an iterator: the rounds go on, or leave the function. -/
theorem range_mine {α : Type} {g : Operand} {ps : Array Tmp} {assign body : Code} {Q : Exit → Act → World → Prop} {a : Act} {w : World}
    (hro : F.round = none) (h1 : 1 ≤ n) {gf : Nat} {lb : Array Value} (hg : a.eval g = .func (.func gf) #[] lb) (hFg : F.fn gf) (eg : ∀ args w, (callFunc gf args).run P w = .ok (.enter gf args) w)
    {encs : α → Array Value} {L : List α} {w0 : World} (hseq : Iter F (n - 1) P gf lb encs L w0) (hb0 : Below w0.heap.size w0 w) (hps : ∀ x, (encs x).size = ps.size)
    (I Ix : List α → World → Prop) (hI : Stays w.heap.size I) (hIx : Stays w.heap.size Ix) (h0 : I [] w) (Ax : α → Act → World → Prop) (hAx : ∀ x a', OwnFrom w.heap.size (fun (_ : Unit) W => Ax x a' W))
    (hassign : ∀ (l : Nat) (pre : List α) (x : α) (W : World) (K : Act → World → Prop), I pre W → (∀ a' W', Kept w.heap.size W W' → I pre W' → Ax x a' W' → K a' W') →
      assign.wpIn (F.inRound l) (n - 1 - 1) P (Exit.then K (fun _ _ _ => False)) { tmps := (ps.zip (encs x)).foldl (fun t (p, v) => t.setIfInBounds p v) a.tmps, defers := [] } W)
    (hbody : ∀ (l : Nat) (pre : List α) (x : α) (a' : Act) (W : World), I pre W → Ax x a' W → (pre ++ [x]) <+: L → body.wpIn (F.inRound l) (n - 1 - 1) P (Post w.heap.size I Ix (pre ++ [x]) W) a' W)
    (hdone : ∀ (D : Nat) (W : World), w.heap.size ≤ D → I L W → W.heap[D]? = some (.deferred (some [])) → Q .normal { a with defers := { target := .collected D, args := #[] } :: a.defers } W)
    (hstop : ∀ (D : Nat) (pre : List α) (W : World), w.heap.size ≤ D → pre <+: L → Ix pre W → W.heap[D]? = some (.deferred (some [])) → Code.ret.wpIn F n P Q { a with defers := { target := .collected D, args := #[] } :: a.defers } W) :
    (Code.rangeFunc g ps assign body).wpIn F n P Q a w := by
  refine wpIn_rangeFunc ?_
  intro fn hfn
  rw [hro]
  obtain ⟨d, hd⟩ : ∃ d : Nat, d = w.heap.size := ⟨_, rfl⟩
  obtain ⟨rec, hrec⟩ : ∃ rec : LoopState → Option Code → Loop, rec = fun st pe => { state := st, pending := pe, fn, tmps := a.tmps, params := ps, assign, body, defers := w.heap.size } := ⟨_, rfl⟩
  obtain ⟨W1, hW1⟩ : ∃ W1, (w.alloc (.deferred (some []))).alloc (.loop (rec .ready none)) = W1 := ⟨_, rfl⟩
  have hL1 : W1.heap[d + 1]? = some (.loop (rec .ready none)) := by
    rw [← hW1, hd]; have := World.alloc_heap_new (w.alloc (.deferred (some []))) (.loop (rec .ready none)); rwa [World.size_alloc] at this
  have hD1 : W1.heap[d]? = some (.deferred (some [])) := by
    rw [← hW1, hd]; exact (Below.heap_alloc _ _ _ (by simp)).trans (World.alloc_heap_new w _)
  have hsz : W1.heap.size = d + 2 := by rw [← hW1, hd]; simp
  have hgr : w.grownBy W1 none := by
    refine ⟨?_, ?_, ?_, by rw [hsz]; omega, fun k hk _ => ?_⟩
    · rw [← hW1]; rfl
    · rw [← hW1]; rfl
    · rw [← hW1]; rfl
    · rw [← hW1]; exact (Below.heap_alloc _ _ _ (by simp; omega)).trans (Below.heap_alloc _ _ _ hk)
  have hI1 : I [] W1 := hI _ _ _ none h0 hgr (fun r e => by cases e)
  have hb1 : Below w0.heap.size w0 W1 := hb0.grown hgr hb0.size (fun k e => by cases e)
  refine ⟨d + 1, [{ target := .collected d, args := #[] }], W1, { target := .fn (.func gf) lb, args := #[.func (.yield (d + 1)) #[] #[]] }, W1, gf,
    #[.func (.yield (d + 1)) #[] #[]] ++ lb, W1, ?_, ?_, ?_, ?_, fun _ => h1, ?_⟩
  · rw [← hW1, hrec, hd]; exact run_enterLoop_outer _ _ _ _ _
  · simp only [resolve, hg]
    simp [go_sem]
  · intro f' hf'; simp [Target.leads] at hf'; subst hf'; exact hFg
  · simp [invoke, go_sem, eg]
  · have far : ∀ {A B : World} {row : Option Nat} {k : Nat} {o : Obj}, A.grownBy B row → (∀ r, row = some r → W1.heap.size ≤ r) → k < d + 2 → A.heap[k]? = some o → B.heap[k]? = some o := fun hg' hr hk ho =>
      (hg'.block _ (Array.getElem?_eq_some_iff.1 ho).1 (fun e => by have := hr _ e.symm; omega)).trans ho
    refine (hseq (d + 1)
      (fun pre W => I pre W ∧ W.heap[d + 1]? = some (.loop (rec .ready none)) ∧ W.heap[d]? = some (.deferred (some [])))
      (fun pre W => Ix pre W ∧ W.heap[d + 1]? = some (.loop (rec .done (some .ret))) ∧ W.heap[d]? = some (.deferred (some [])))
      W1 hb1
      (fun s A B row hs hg' hr => ⟨hI s A B row hs.1 hg' (fun r e => by have := hr r e; omega), far hg' hr (by omega) hs.2.1, far hg' hr (by omega) hs.2.2⟩)
      (fun s A B row hs hg' hr => ⟨hIx s A B row hs.1 hg' (fun r e => by have := hr r e; omega), far hg' hr (by omega) hs.2.1, far hg' hr (by omega) hs.2.2⟩)
      ?_ ⟨hI1, hL1, hD1⟩).mono ?_
    · rintro pre x A ⟨hi, hl, hk⟩ hpre
      have hy := run_yield (P := P) (args := encs x) hl (by rw [hrec]; exact hps x)
      rw [hrec] at hy
      refine ⟨fn, _, assign, body, hy, roundIn_of_wpIn hfn (hassign _ pre x A _ hi ?_)⟩
      clear hy
      intro a' Wa hka hia hax
      have hla : Wa.heap[d + 1]? = some (.loop (rec .ready none)) := hka.at_ (by omega) hl
      have hda : Wa.heap[d]? = some (.deferred (some [])) := hka.at_ (by omega) hk
      have hlt : d + 1 < Wa.heap.size := (Array.getElem?_eq_some_iff.1 hla).1
      refine ⟨_, run_beginRound hla (by rw [hrec]), ?_⟩
      obtain ⟨Wb, hWb⟩ : ∃ Wb, Wa.putObj (d + 1) (.loop { rec .ready none with state := .busy }) = Wb := ⟨_, rfl⟩
      rw [hWb]
      have hlb : Wb.heap[d + 1]? = some (.loop { rec .ready none with state := .busy }) := by rw [← hWb]; exact World.putObj_heap_same hlt
      have hdb : Wb.heap[d]? = some (.deferred (some [])) := by rw [← hWb]; exact (World.putObj_heap_other (by omega)).trans hda
      have hab : ∀ k, k ≠ d + 1 → Wb.heap[k]? = Wa.heap[k]? := fun k hk => by rw [← hWb]; exact World.putObj_heap_other hk
      have hsb : Wb.heap.size = Wa.heap.size := by rw [← hWb]; exact World.putObj_size
      have hib : I pre Wb := by rw [← hWb]; exact hI _ _ _ (some (d + 1)) hia (grownBy_putObj' _ _ _) (fun r e => by cases e; omega)
      have hxb : Ax x a' Wb := by rw [← hWb]; exact (hAx x a').putObj (s := ()) _ hax (by omega) hla rfl
      refine wpIn_mono (hbody _ pre x a' _ hib hxb hpre) ?_
      have fin : ∀ (jump : Option Code) (W3 : World), Kept w.heap.size Wb W3 → ∃ W4, (Instr.endRound (d + 1) jump).run P W3 = .ok (.bool jump.isNone) W4 ∧ W3.grownBy W4 (some (d + 1)) ∧
          W4.heap[d + 1]? = some (.loop (rec (if jump.isNone then .ready else .done) jump)) ∧ W4.heap[d]? = some (.deferred (some [])) ∧ Kept W1.heap.size A W4 := fun jump W3 hk3 => by
        have hl3 := hk3.at_ (by omega) hlb
        have hd3 := hk3.at_ (by omega) hdb
        have hlt3 := (Array.getElem?_eq_some_iff.1 hl3).1
        have hr := run_endRound (P := P) jump hl3
        rw [hrec] at hr
        refine ⟨W3.putObj (d + 1) (.loop (rec (if jump.isNone then .ready else .done) jump)), ?_, grownBy_putObj' _ _ _, World.putObj_heap_same hlt3, (World.putObj_heap_other (by omega)).trans hd3, ?_, fun k hB hlt' => ?_⟩
        · rw [hrec]; exact hr
        · have q1 := hka.1
          have q2 := hk3.1
          rw [World.putObj_size]; omega
        · have q1 := hka.1
          rw [World.putObj_heap_other (by omega), hk3.2 k (by omega) (by omega), hab k (by omega)]
          exact hka.2 k (by omega) hlt'
      rintro e a3 W3 hp
      cases e with
      | normal =>
        obtain ⟨hk3, hi3⟩ := hp
        obtain ⟨W4, hr, hg4, hl4, hd4, hk4⟩ := fin none W3 hk3
        exact ⟨_, _, hr, .inl ⟨rfl, ⟨hI _ _ _ _ hi3 hg4 (fun r e => by cases e; omega), hl4, hd4⟩, hk4⟩⟩
      | ret =>
        obtain ⟨hk3, hi3⟩ := hp
        obtain ⟨W4, hr, hg4, hl4, hd4, hk4⟩ := fin (some .ret) W3 hk3
        exact ⟨_, _, hr, .inr ⟨rfl, hIx _ _ _ _ hi3 hg4 (fun r e => by cases e; omega), hl4, hd4⟩⟩
      | exit id => exact hp.elim
      | goto t => exact hp.elim
      | panic ch => exact hp.elim
      | outgrown => exact hp.elim
    · rintro e W2 ⟨⟨v, rfl⟩, (⟨hi, hl, hk⟩ | ⟨pre, hpre, hi, hl, hk⟩)⟩
      · have hr := run_endLoop (P := P) hl (by rw [hrec]; simp)
        rw [hrec] at hr
        refine ⟨none, _, hr, ?_⟩
        exact hdone d _ (by omega) (hI _ _ _ (some (d + 1)) hi (grownBy_putObj' _ _ _) (fun r e => by cases e; omega)) ((World.putObj_heap_other (by omega)).trans hk)
      · have hr := run_endLoop (P := P) hl (by rw [hrec]; simp)
        rw [hrec] at hr
        refine ⟨some .ret, _, hr, ?_⟩
        exact hstop d pre _ (by omega) hpre (hIx _ _ _ (some (d + 1)) hi (grownBy_putObj' _ _ _) (fun r e => by cases e; omega)) ((World.putObj_heap_other (by omega)).trans hk)
end Rf
end Go.Proofs.YtflfdkjbpbjghaaDoor
