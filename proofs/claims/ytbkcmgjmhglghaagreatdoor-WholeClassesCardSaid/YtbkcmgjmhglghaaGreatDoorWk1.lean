/-
  A map from states to their numbers.
-/
import Derived.Test.YtbkcmgjmhglghaaGreatDoorWk0
namespace Go.Proofs.YtbkcmgjmhglghaaGreatDoor
open Go.RowKit

def memD {S : Type} [DecidableEq S] (s : S) (st : List S) : Bool := decide (s ∈ st)
theorem memD_true {S : Type} [DecidableEq S] {s : S} {st : List S} (h : s ∈ st) : memD s st = true := decide_eq_true h
theorem memD_false {S : Type} [DecidableEq S] {s : S} {st : List S} (h : s ∉ st) : memD s st = false := decide_eq_false h
/-- The map in block b has the states st, each with its place; the keys of all states in U can be read. -/
def MapIs {S : Type} [DecidableEq S] (k : TypeId) (enc : S → Value) (U : List S) (w : World) (b : Nat) (st : List S) : Prop :=
  ∃ (D : DataW Unit) (n : Nat), w.ownsMap Tryz.prog k (plainElem Tryz.prog 3) b n D ∧ n ≤ st.length ∧ Maps.size D = st.length ∧
    ∀ s ∈ U, ∀ kl, keyOf Tryz.prog k (enc s) = some kl → Maps.has D kl = decide (s ∈ st) ∧ ∀ j, st[j]? = some s → D.atKey kl (.lit (.int .i64 0)) = .lit (.int .i64 (j : Nat))
section
variable {S : Type} [DecidableEq S] {k : TypeId} {enc : S → Value} {U : List S} {w : World} {b : Nat} {st : List S}
theorem MapIs.made (w : World) : MapIs k enc U (w.alloc (.map #[] 0)) w.heap.size ([] : List S) :=
  ⟨.map [], 0, World.ownsMap_made w _ _ _, Nat.le_refl _, rfl, fun s _ kl _ => ⟨rfl, fun j h => by simp at h⟩⟩
theorem MapIs.kept {w' : World} {row : Option Nat} (h : MapIs k enc U w b st) (hg : w.grownBy w' row) (hne : some b ≠ row) : MapIs k enc U w' b st := by
  obtain ⟨D, n, h1, h2⟩ := h
  exact ⟨D, n, h1.kept hg hne, h2⟩
theorem MapIs.below {w' : World} (h : MapIs k enc U w b st) (hb : Below w.heap.size w w') : MapIs k enc U w' b st :=
  h.kept (row := none) ⟨hb.os, hb.tape, hb.output, hb.size, fun i hi _ => hb.block i hi⟩ (by simp)
theorem MapIs.setCell (h : MapIs k enc U w b st) {a : Addr} (ha : b ≠ a.block) (u : Value) : MapIs k enc U (w.setCell a u) b st := by
  obtain ⟨D, n, h1, h2⟩ := h
  exact ⟨D, n, h1.setCell ha u, h2⟩
theorem MapIs.lt (h : MapIs k enc U w b st) : b < w.heap.size := by
  obtain ⟨D, n, h1, _⟩ := h
  exact h1.lt
theorem MapIs.isMap (h : MapIs k enc U w b st) : ∃ es clock, w.heap[b]? = some (.map es clock) := by
  obtain ⟨D, n, ⟨es, clock, hb, _⟩, _⟩ := h
  exact ⟨es, clock, hb⟩
theorem MapIs.len {t : TypeId} (h : MapIs k enc U w b st) (ht : Tryz.prog.underlying t = some (.map k 3)) (ty : TypeId) : (Builtin.len_ #[t] ty #[.map (some b)]).run Tryz.prog w = .ok (.int .i64 st.length) w := by
  obtain ⟨D, n, h1, _, h3, _⟩ := h
  have := h1.len ht ty
  rw [h3] at this
  exact this
end
theorem lit_wf (n : Nat) (h : n < 4611686018427387904) : (Lit.int .i64 (n : Int)).wf = true := wf_small ⟨by omega, by omega⟩
set_option maxRecDepth 100000 in
/-- v, ok := m[s]. -/
theorem wpList_look {S : Type} [DecidableEq S] {ops : Array Oper} {rest : List Oper} {o : Oper} {a : Act} {Q : Exit → Act → World → Prop} {w : World} (hg : o.guard = none) (m x : Operand) (t : TypeId) (hop : o.op = Op.lookup t m x true)
    (k : TypeId) (K : Maps.Keyed Tryz.prog k) (ht : Tryz.prog.underlying t = some (.map k 3)) (enc : S → Value) (U st : List S) (b : Nat) (hm : a.eval m = .map (some b)) (h : MapIs k enc U w b st)
    (s : S) (hs : s ∈ U) (kl : Lit) (hkl : keyOf Tryz.prog k (enc s) = some kl) (hx : a.eval x = enc s)
    (hK : ∀ c : Int, (∀ j, st[j]? = some s → c = (j : Nat)) → wpList Tryz.prog ops Q rest (a.put o.dst (.tuple #[.int .i64 c, .bool (memD s st)])) w) :
    wpList Tryz.prog ops Q (o :: rest) a w := by
  obtain ⟨D, n, h1, h2, h3, h4⟩ := h
  obtain ⟨g1, g2⟩ := h4 s hs kl hkl
  refine wpList_lookup_own_ok_int w hg m x t hop k 3 .i64 K ht Tryz.underlying3 (by kernel_rfl) b n D hm h1 (enc s) kl hx hkl ?_
  intro c hc _
  rw [g1]
  refine hK c fun j hj => ?_
  have := (g2 j hj).symm.trans hc
  injection this with this
  injection this with _ this
  exact this.symm
/-- m[s] = len(st), where s is new. -/
theorem mapIs_put {S : Type} [DecidableEq S] {w : World} {t k : TypeId} (K : Maps.Keyed Tryz.prog k) (ht : Tryz.prog.underlying t = some (.map k 3)) {enc : S → Value} (hinj : ∀ s s', enc s = enc s' → s = s') {U st : List S} {b : Nat} (h : MapIs k enc U w b st) (hst : st.length < 4611686018427387904)
    {s : S} (hs : s ∈ U) {kl : Lit} (hkl : keyOf Tryz.prog k (enc s) = some kl) (hne : s ∉ st) :
    ∃ w', (Instr.mapUpdate t (.map (some b)) (enc s) (.int .i64 st.length)).run Tryz.prog w = .ok () w' ∧ MapIs k enc U w' b (st ++ [s]) ∧ w.grownBy w' (some b) := by
  obtain ⟨D, n, h1, h2, h3, h4⟩ := h
  have htidy := h1.tidy K
  obtain ⟨g1, _⟩ := h4 s hs kl hkl
  obtain ⟨w', r1, r2, r3⟩ := h1.update K ht (by unfold maxLen; omega) hkl (plainElem_int Tryz.underlying3 (lit_wf st.length hst))
  have hk := K.key hkl
  refine ⟨w', r1, ⟨_, n + 1, r2, by simp; omega, ?_, ?_⟩, r3⟩
  · rw [Maps.size_put htidy, g1, h3]
    simp [hne]
  · intro s' hs' kl' hkl'
    by_cases he : s' = s
    · subst he
      rw [hkl] at hkl'
      injection hkl' with hkl'
      subst hkl'
      refine ⟨by rw [Maps.has_put_same htidy.isMap hk]; simp, fun j hj => ?_⟩
      rw [Maps.atKey_put_same htidy.isMap hk]
      have hj' : j = st.length := by
        rcases Nat.lt_or_ge j st.length with h | h
        · rw [List.getElem?_append_left h] at hj
          exact absurd (List.mem_of_getElem? hj) hne
        · have := (List.getElem?_eq_some_iff.1 hj).1
          simp at this
          omega
      rw [hj']
    · have hkk : kl' ≠ kl := by
        rintro rfl
        exact he (hinj _ _ (K.inj hkl' hkl))
      obtain ⟨q1, q2⟩ := h4 s' hs' kl' hkl'
      refine ⟨by rw [Maps.has_put_other hkk, q1]; simp [he], fun j hj => ?_⟩
      rw [Maps.atKey_put_other hkk]
      refine q2 j ?_
      rcases Nat.lt_or_ge j st.length with h | h
      · rwa [List.getElem?_append_left h] at hj
      · have h' := (List.getElem?_eq_some_iff.1 hj).1
        simp at h'
        have : j = st.length := by omega
        subst this
        simp at hj
        exact absurd hj.symm he
theorem wpList_put {S : Type} [DecidableEq S] {ops : Array Oper} {rest : List Oper} {o : Oper} {a : Act} {Q : Exit → Act → World → Prop} {w : World} (hg : o.guard = none) (m x v : Operand) (t : TypeId) (hop : o.op = Op.mapUpdate t m x v ∨ o.op = Op.insert t m x v)
    (k : TypeId) (K : Maps.Keyed Tryz.prog k) (ht : Tryz.prog.underlying t = some (.map k 3)) (enc : S → Value) (hinj : ∀ s s', enc s = enc s' → s = s') (U st : List S) (b : Nat) (hm : a.eval m = .map (some b)) (h : MapIs k enc U w b st) (hst : st.length < 4611686018427387904)
    (s : S) (hs : s ∈ U) (kl : Lit) (hkl : keyOf Tryz.prog k (enc s) = some kl) (hne : s ∉ st) (hx : a.eval x = enc s) (hv : a.eval v = .int .i64 st.length)
    (hK : ∀ w', MapIs k enc U w' b (st ++ [s]) → w.grownBy w' (some b) → wpList Tryz.prog ops Q rest (a.put o.dst undef) w') :
    wpList Tryz.prog ops Q (o :: rest) a w := by
  refine wpList_plain hg fun K' hK' => ?_
  obtain ⟨w', hrun, r1, r2⟩ := mapIs_put K ht hinj h hst hs hkl hne
  unfold Oper.wp
  rcases hop with hop | hop
  all_goals
    simp [execOp, hop, hm, hx, hv, hrun, Result.andThen]
    exact hK' _ _ (hK w' r1 r2)
theorem rdV_inj (s s' : RS) (h : rdV s = rdV s') : s = s' := by
  obtain ⟨p, ts⟩ := s
  obtain ⟨p', ts'⟩ := s'
  unfold rdV rdC at h
  injection h with h
  have h3 := congrArg Array.toList h
  clear h
  injection h3 with h1 h2
  injection h1 with _ h1
  have hp : p = p' := by omega
  subst hp
  congr 1
  clear h1
  induction ts generalizing ts' with
  | nil =>
    cases ts' with
    | nil => rfl
    | cons t ts => simp [trC] at h2
  | cons t ts ih =>
    cases ts' with
    | nil => simp [trC] at h2
    | cons t' ts' =>
      simp only [List.flatMap_cons, trC, List.cons_append, List.nil_append] at h2
      injection h2 with e1 h2
      injection h2 with e2 h2
      injection e1 with _ e1
      injection e2 with _ e2
      rw [ih _ h2, Prod.ext e1 e2]
end Go.Proofs.YtbkcmgjmhglghaaGreatDoor
