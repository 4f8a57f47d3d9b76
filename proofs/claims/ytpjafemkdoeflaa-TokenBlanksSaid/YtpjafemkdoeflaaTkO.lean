/-
  Rows of the call's own, and slices that read as tokens.
-/
import Derived.Test.YtpjafemkdoeflaaTk9
import Derived.Deep.AppendLies
import Derived.Lib.OthersKept
import Derived.Deep.QuietTactic
namespace Go.Proofs.Ytpjafemkdoeflaa
open Go.RowKit

theorem cell_one_new (w : World) (v : Value) (e : TypeId) : ∀ j u, [v][j]? = some u → (w.alloc (.cells #[v] e)).cell? ((⟨w.heap.size, 0, none⟩ : Addr).add j) = some u := by
  intro j u hj
  have e1 : (⟨w.heap.size, 0, none⟩ : Addr).add j = ⟨w.heap.size, j, none⟩ := by unfold Addr.add; split <;> simp_all
  rw [e1, cell_of_row _ _ j _ _ _ (heap_alloc_new w _)]
  simpa using hj
theorem cell_four_new (w : World) (a b c d : Value) (e : TypeId) : ∀ j u, [a, b, c, d][j]? = some u → (w.alloc (.cells #[a, b, c, d] e)).cell? ((⟨w.heap.size, 0, none⟩ : Addr).add j) = some u := by
  intro j u hj
  have e1 : (⟨w.heap.size, 0, none⟩ : Addr).add j = ⟨w.heap.size, j, none⟩ := by unfold Addr.add; split <;> simp_all
  rw [e1, cell_of_row _ _ j _ _ _ (heap_alloc_new w _)]
  simpa using hj
theorem own_kind {w : World} {B : Nat} {e : TypeId} {sz n : Nat} {v : Value} {xs : List Value} (h : w.ownsRow B e sz v n xs) : ∀ g, v.ownBlock = some g → ∃ c fz, w.heap[g]? = some (.cells c e fz) := by
  intro g hg
  rcases h.2 with ⟨rfl, _⟩ | ⟨g', cap, cur, rfl, _, hgg, _⟩
  · simp [Value.ownBlock] at hg
  · simp [Value.ownBlock] at hg
    subst hg
    exact ⟨cur, _, hgg⟩
theorem own_from {w : World} {B : Nat} {e : TypeId} {sz n : Nat} {v : Value} {xs : List Value} (h : w.ownsRow B e sz v n xs) : ∀ g, v.ownBlock = some g → B ≤ g := by
  intro g hg
  rcases h.2 with ⟨rfl, _⟩ | ⟨g', cap, cur, rfl, hb, _⟩
  · simp [Value.ownBlock] at hg
  · simp [Value.ownBlock] at hg
    omega
theorem own_keep {w w' : World} {B : Nat} {e : TypeId} {sz n : Nat} {v : Value} {xs : List Value} (h : w.ownsRow B e sz v n xs) (hb : Below w.heap.size w w') : w'.ownsRow B e sz v n xs := by
  obtain ⟨hl, h0 | ⟨g, cap, cur, rfl, hbg, hg, r⟩⟩ := h
  · exact ⟨hl, .inl h0⟩
  · exact ⟨hl, .inr ⟨g, cap, cur, rfl, hbg, by rw [hb.block g (Array.getElem?_eq_some_iff.1 hg).1]; exact hg, r⟩⟩
theorem own_grown {w w' : World} {B : Nat} {e : TypeId} {sz n : Nat} {v : Value} {xs : List Value} (h : w.ownsRow B e sz v n xs) {r : Option Nat} {e' : TypeId} (hg : w.grownBy w' r) (hr : ∀ g, r = some g → ∃ c fz, w.heap[g]? = some (.cells c e' fz)) (hne : e' ≠ e) : w'.ownsRow B e sz v n xs := by
  obtain ⟨hl, h0 | ⟨g, cap, cur, rfl, hbg, hgg, q⟩⟩ := h
  · exact ⟨hl, .inl h0⟩
  · refine ⟨hl, .inr ⟨g, cap, cur, rfl, hbg, ?_, q⟩⟩
    rw [hg.block g (Array.getElem?_eq_some_iff.1 hgg).1 ?_]
    · exact hgg
    · intro hk
      obtain ⟨c, fz, hc⟩ := hr g hk.symm
      rw [hgg] at hc
      cases hc
      exact hne rfl
/-- The row's last cell taken away. -/
theorem own_less {w : World} {B : Nat} {e : TypeId} {ao : Option Addr} {n cap : Nat} {xs : List Value} (h : w.ownsRow B e 1 (.slice ao (n + 1) cap) (n + 1) xs) : w.ownsRow B e 1 (.slice ao n cap) n xs.dropLast := by
  obtain ⟨hl, ⟨h0, h1⟩ | ⟨g, cap', cur, hv, hbg, hg, h1, h2, h3, h4⟩⟩ := h
  · cases h1
  · cases hv
    refine ⟨by rw [List.length_dropLast]; omega, .inr ⟨g, cap, cur, rfl, hbg, hg, by omega, h2, h3, ?_⟩⟩
    rw [← h4, List.dropLast_eq_take, List.take_take, List.length_take]
    congr 1
    simp at h3 ⊢
    omega
/-- The row's last cell. -/
theorem own_last {w : World} {B : Nat} {e : TypeId} {ao : Option Addr} {n cap : Nat} {xs : List Value} (h : w.ownsRow B e 1 (.slice ao (n + 1) cap) (n + 1) xs) (v : Value) (hv : xs[n]? = some v) : ∃ g, ao = some ⟨g, 0, none⟩ ∧ w.cell? ⟨g, n, none⟩ = some v := by
  have h' := h
  obtain ⟨hl, ⟨h0, h1⟩ | ⟨g, cap', cur, hv', hbg, hg, h1, h2, h3, h4⟩⟩ := h
  · cases h1
  · cases hv'
    refine ⟨g, rfl, ?_⟩
    have := h'.cells (g := g) rfl n v hv
    have e : (⟨g, 0, none⟩ : Addr).add n = ⟨g, n, none⟩ := by unfold Addr.add; split <;> simp_all
    rwa [e] at this

theorem Try.infoTok : (Try.prog.info? 34).map (fun i => (i.zero, i.size, i.bytes)) = some (some (.agg #[.int .i64 0, .string ⟨#[]⟩, .int .i64 0, .int .i64 0]), 4, 40) := by kernel_rfl
theorem Try.infoTokR : (Try.prog.info? 36).map (fun i => (i.zero, i.size, i.bytes)) = some (some (.agg #[.int .i64 0, .string ⟨#[]⟩, .int .i64 0, .int .i64 0]), 4, 40) := by kernel_rfl
theorem Try.infoBool : (Try.prog.info? 4).map (fun i => (i.zero, i.size, i.bytes)) = some (some (.bool false), 1, 1) := by kernel_rfl
def cellsT (x : Tok) : List Value := [.int .i64 x.1, .string (ba x.2.1), .int .i64 x.2.2.1, .int .i64 x.2.2.2]
def flatT (l : List Tok) : List Value := l.flatMap cellsT
theorem flatT_app (a b : List Tok) : flatT (a ++ b) = flatT a ++ flatT b := by unfold flatT; rw [List.flatMap_append]
theorem flatT_len (l : List Tok) : (flatT l).length = 4 * l.length := by
  induction l with
  | nil => rfl
  | cons x l ih =>
    have e : flatT (x :: l) = cellsT x ++ flatT l := rfl
    rw [e, List.length_append, ih, List.length_cons]
    show 4 + _ = _
    omega
theorem flatT_at : ∀ (l : List Tok) (i : Nat) (x : Tok), l[i]? = some x →
    (flatT l)[4 * i]? = some (.int .i64 x.1) ∧ (flatT l)[4 * i + 1]? = some (.string (ba x.2.1)) ∧ (flatT l)[4 * i + 2]? = some (.int .i64 x.2.2.1) ∧ (flatT l)[4 * i + 3]? = some (.int .i64 x.2.2.2)
  | [], i, x, h => by simp at h
  | y :: l, 0, x, h => by
    simp at h
    subst h
    exact ⟨rfl, rfl, rfl, rfl⟩
  | y :: l, i + 1, x, h => by
    have h : l[i]? = some x := by simpa using h
    obtain ⟨a, b, c, d⟩ := flatT_at l i x h
    have e : flatT (y :: l) = cellsT y ++ flatT l := rfl
    have e2 : (cellsT y).length = 4 := rfl
    rw [e, show 4 * (i + 1) = 4 * i + 4 by omega]
    refine ⟨?_, ?_, ?_, ?_⟩
    · rw [List.getElem?_append_right (by omega), e2]; simpa using a
    · rw [List.getElem?_append_right (by omega), e2]; simpa using b
    · rw [List.getElem?_append_right (by omega), e2]; simpa using c
    · rw [List.getElem?_append_right (by omega), e2]; simpa using d
/-- A slice that reads as tokens. -/
def IsToks (w : World) (B : Nat) (v : Value) (l : List Tok) : Prop :=
  ∃ ao cap, v = .slice ao l.length cap ∧ (0 < l.length → ∃ b o, ao = some ⟨b, o, none⟩ ∧ b < B ∧ ∀ i x, l[i]? = some x →
    w.cell? ⟨b, o + i * 4, none⟩ = some (.int .i64 x.1) ∧ w.cell? ⟨b, o + i * 4 + 1, none⟩ = some (.string (ba x.2.1)) ∧ w.cell? ⟨b, o + i * 4 + 2, none⟩ = some (.int .i64 x.2.2.1) ∧ w.cell? ⟨b, o + i * 4 + 3, none⟩ = some (.int .i64 x.2.2.2))
theorem IsToks.nil (w : World) (B : Nat) : IsToks w B (.slice none 0 0) [] := ⟨none, 0, rfl, fun h => by simp at h⟩
theorem IsToks.below {w w' : World} {B : Nat} {v : Value} {l : List Tok} (h : IsToks w B v l) (hb : Below B w w') : IsToks w' B v l := by
  obtain ⟨ao, cap, rfl, h⟩ := h
  refine ⟨ao, cap, rfl, fun hl => ?_⟩
  obtain ⟨b, o, rfl, hB, hc⟩ := h hl
  refine ⟨b, o, rfl, hB, fun i x hi => ?_⟩
  obtain ⟨c0, c1, c2, c3⟩ := hc i x hi
  exact ⟨(hb.cell (p := ⟨b, _, none⟩) hB).trans c0, (hb.cell (p := ⟨b, _, none⟩) hB).trans c1, (hb.cell (p := ⟨b, _, none⟩) hB).trans c2, (hb.cell (p := ⟨b, _, none⟩) hB).trans c3⟩
theorem IsToks.more {w : World} {B B' : Nat} {v : Value} {l : List Tok} (h : IsToks w B v l) (hB : B ≤ B') : IsToks w B' v l := by
  obtain ⟨ao, cap, rfl, h⟩ := h
  refine ⟨ao, cap, rfl, fun hl => ?_⟩
  obtain ⟨b, o, rfl, hB', hc⟩ := h hl
  exact ⟨b, o, rfl, by omega, hc⟩
theorem IsToks.of_own {w : World} {base : Nat} {e : TypeId} {v : Value} {l : List Tok} (h : w.ownsRow base e 4 v l.length (flatT l)) : IsToks w w.heap.size v l := by
  by_cases hl : 0 < l.length
  · obtain ⟨g, cap, rfl, _, hlt⟩ := h.form hl
    have hc := h.cells (g := g) rfl
    refine ⟨some ⟨g, 0, none⟩, cap, rfl, fun _ => ⟨g, 0, rfl, hlt, fun i x hi => ?_⟩⟩
    obtain ⟨c0, c1, c2, c3⟩ := flatT_at l i x hi
    have e : ∀ j, (⟨g, 0, none⟩ : Addr).add j = ⟨g, 0 + j, none⟩ := by intro j; unfold Addr.add; split <;> simp_all
    have d0 := hc _ _ c0
    have d1 := hc _ _ c1
    have d2 := hc _ _ c2
    have d3 := hc _ _ c3
    rw [e] at d0 d1 d2 d3
    rw [Nat.mul_comm 4 i] at d0 d1 d2 d3
    exact ⟨d0, d1, d2, d3⟩
  · have : l = [] := List.eq_nil_of_length_eq_zero (by omega)
    subst this
    rcases h.2 with ⟨rfl, _⟩ | ⟨g, cap, cur, rfl, _⟩
    · exact ⟨none, 0, rfl, fun hl => absurd hl (by simp)⟩
    · exact ⟨_, cap, rfl, fun hl => absurd hl (by simp)⟩
/-- What Tokens returns. -/
def outL (l : By) : List Tok := if 4000 < l.length then [] else if (toks l).2 = none then (toks l).1 else []
def atV (l : By) : Nat := if 4000 < l.length then 4000 else (toks l).2.getD 0
def errV (l : By) : Int := if 4000 < l.length then 6 else if (toks l).2 = none then 0 else 3
def ToksP (l : By) (w : World) (e : Ending) (w' : World) : Prop := ∃ r, e = .returned (.tuple #[r, .int .i64 (atV l), .int .i64 (errV l)]) ∧ IsToks w' w'.heap.size r (outL l) ∧ Below w.heap.size w w'
theorem toks_long {l : By} (h : 4000 < l.length) : outL l = [] ∧ atV l = 4000 ∧ errV l = 6 := by
  unfold outL atV errV
  rw [if_pos h, if_pos h, if_pos h]
  exact ⟨rfl, rfl, rfl⟩
theorem toks_good {l : By} {ts : List Tok} (h : ¬ 4000 < l.length) (h1 : (toks l).1 = ts) (h2 : (toks l).2 = none) : outL l = ts ∧ atV l = 0 ∧ errV l = 0 := by
  unfold outL atV errV
  rw [if_neg h, if_neg h, if_neg h, if_pos h2, if_pos h2, h1, h2]
  exact ⟨rfl, rfl, rfl⟩
theorem toks_bad {l : By} {p : Nat} (h : ¬ 4000 < l.length) (h2 : (toks l).2 = some p) : outL l = [] ∧ atV l = p ∧ errV l = 3 := by
  unfold outL atV errV
  rw [if_neg h, if_neg h, if_neg h, if_neg (by rw [h2]; simp), if_neg (by rw [h2]; simp), h2]
  exact ⟨rfl, rfl, rfl⟩
theorem ba_drop (l : By) (p : Nat) : (ba l).extract p (ba l).size = ba (l.drop p) := by
  rw [ba_ext (ba_list l), ba_size, List.take_of_length_le (by rw [List.length_drop]; exact Nat.le_refl _)]
theorem drop_more (l : By) (p n : Nat) : (l.drop p).drop n = l.drop (p + n) := by rw [List.drop_drop]
theorem toks_nonneg (l : By) : (toksAt l 0 0) = toks l := rfl
/-- The state of some rounds. -/
def TokSt (l : By) (p d : Nat) (acc : List Tok) : Prop := p ≤ l.length ∧ (toks l).1 = acc ++ (toksAt (l.drop p) p d).1 ∧ (toks l).2 = (toksAt (l.drop p) p d).2 ∧ acc.length ≤ p ∧ d ≤ p
theorem TokSt.start (l : By) : TokSt l 0 0 [] := ⟨Nat.zero_le _, by rw [List.drop_zero]; rfl, by rw [List.drop_zero]; rfl, Nat.le_refl _, Nat.le_refl _⟩
theorem TokSt.blank {l : By} {p d : Nat} {acc : List Tok} (h : TokSt l p d acc) {c : UInt8} {r : By} (hd : l.drop p = c :: r) (h1 : d % 2 = 1) (h2 : blB c = true) : TokSt l (p + 1) d acc := by
  obtain ⟨a, b, e, f, g⟩ := h
  have hr : l.drop (p + 1) = r := by rw [← drop_more, hd]; rfl
  have hp : p < l.length := by
    rcases Nat.lt_or_ge p l.length with h | h
    · exact h
    · rw [List.drop_eq_nil_of_le h] at hd; cases hd
  rw [hd, toksAt_blank h1 h2] at b e
  rw [← hr] at b e
  exact ⟨hp, b, e, by omega, by omega⟩
theorem TokSt.miss {l : By} {p d : Nat} {acc : List Tok} (h : TokSt l p d acc) {c : UInt8} {r : By} (hd : l.drop p = c :: r) (hb : ¬ (d % 2 = 1 ∧ blB c = true)) (ht : tok1 (decide (d % 2 = 1)) (c :: r) = none) : (toks l).2 = some p := by
  obtain ⟨a, b, e, f, g⟩ := h
  rw [e, hd, toksAt_none hb ht]
theorem TokSt.shut {l : By} {p : Nat} {acc : List Tok} (h : TokSt l p 0 acc) {c : UInt8} {r : By} (hd : l.drop p = c :: r) {t : By} {n : Nat} (ht : tok1 false (c :: r) = some (3, t, n)) : (toks l).2 = some p := by
  obtain ⟨a, b, e, f, g⟩ := h
  rw [e, hd, toksAt_shut ht]
theorem TokSt.tok {l : By} {p d : Nat} {acc : List Tok} (h : TokSt l p d acc) {c : UInt8} {r : By} (hd : l.drop p = c :: r) {k : Nat} {t : By} {n : Nat} (hb : ¬ (d % 2 = 1 ∧ blB c = true)) (ht : tok1 (decide (d % 2 = 1)) (c :: r) = some (k, t, n)) (hk : ¬ (k = 3 ∧ d = 0)) : TokSt l (p + n) (newD k d) (acc ++ [(k, t, p, p + n)]) ∧ 1 ≤ n ∧ p + n ≤ l.length := by
  obtain ⟨a, b, e, f, g⟩ := h
  have hn := tok1_size ht
  have hl := congrArg List.length hd
  rw [List.length_drop] at hl
  rw [hd, toksAt_some hb ht hk, ← hd, drop_more] at b e
  refine ⟨⟨by omega, by rw [b]; simp, e, ?_, ?_⟩, hn.1, by omega⟩
  · rw [List.length_append, List.length_singleton]
    omega
  · unfold newD
    split
    · omega
    · split <;> omega
theorem TokSt.fin {l : By} {p d : Nat} {acc : List Tok} (h : TokSt l p d acc) (hp : l.length ≤ p) : (toks l).1 = acc ∧ (toks l).2 = if d = 0 then none else some l.length := by
  obtain ⟨a, b, e, f, g⟩ := h
  have hpl : p = l.length := by omega
  rw [List.drop_eq_nil_of_le hp, toksAt_nil] at b e
  exact ⟨by simpa using b, by rw [e, hpl]⟩
theorem tok1_kind {br : Bool} {l : By} {k t n} (h : tok1 br l = some (k, t, n)) : k ≠ 0 := by
  cases l with
  | nil => cases h
  | cons c r =>
    unfold tok1 at h
    dsimp only at h
    repeat' split at h
    all_goals first
      | (cases h; done)
      | (have he := (elemT_some h).size; omega)
      | (simp only [Option.some.injEq, Prod.mk.injEq] at h
         obtain ⟨rfl, _, _⟩ := h
         decide)
end Go.Proofs.Ytpjafemkdoeflaa
