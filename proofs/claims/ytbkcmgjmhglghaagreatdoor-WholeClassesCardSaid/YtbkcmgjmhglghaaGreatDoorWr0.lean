/-
  Rules, conditions, relations and spans: as plain data, and as they lie in memory.
-/
import Derived.Test.YtbkcmgjmhglghaaGreatDoorProg
import Derived.Test.YtbkcmgjmhglghaaGreatDoorWp0
import Derived.WalkKit
import Derived.WalkSpells
import Derived.WalkLawsBesides
import Derived.Laws.BytesArg
import Derived.Lib.Hide
import Derived.Deep.Draws
import Derived.Deep.QuietTactic
import Derived.BigQuiet
import Derived.Lib.OthersKept
import Derived.Deep.AppendLies
import Derived.Lib.Builder
namespace Go.Proofs.YtbkcmgjmhglghaaGreatDoor
open Go.RowKit

/-! ### In memory -/
/-- The slice value v has n elements; F tells what lies from a place on. -/
def SlV (v : Value) (n B : Nat) (F : Nat → Nat → Prop) : Prop := ∃ ao cap, v = .slice ao n cap ∧ (0 < n → ∃ b o, ao = some ⟨b, o, none⟩ ∧ b < B ∧ F b o)
theorem SlV.imp {v : Value} {n B B' : Nat} {F F' : Nat → Nat → Prop} (h : SlV v n B F) (hB : B ≤ B') (hF : ∀ b o, b < B → F b o → F' b o) : SlV v n B' F' := by
  obtain ⟨ao, cap, rfl, h⟩ := h
  refine ⟨ao, cap, rfl, fun hn => ?_⟩
  obtain ⟨b, o, rfl, hb, hf⟩ := h hn
  exact ⟨b, o, rfl, by omega, hF b o hb hf⟩
def IsInts (w : World) (B : Nat) (v : Value) (xs : List Int) : Prop := SlV v xs.length B fun b o => ∀ i, i < xs.length → w.cell? ⟨b, o + i, none⟩ = some (.int .i64 (xs.getD i 0))
def IsSpans (w : World) (B : Nat) (v : Value) (l : List Sp) : Prop := SlV v l.length B fun b o => ∀ i x, l[i]? = some x → w.cell? ⟨b, o + i * 2, none⟩ = some (.int .i64 x.1) ∧ w.cell? ⟨b, o + i * 2 + 1, none⟩ = some (.int .i64 x.2)
def IsRels (w : World) (B : Nat) (v : Value) (l : List Rel) : Prop := SlV v l.length B fun b o => ∀ i x, l[i]? = some x →
  w.cell? ⟨b, o + i * 4, none⟩ = some (.int .i64 x.op) ∧ w.cell? ⟨b, o + i * 4 + 1, none⟩ = some (.int .i64 x.md) ∧ w.cell? ⟨b, o + i * 4 + 2, none⟩ = some (.bool x.nt) ∧
  ∃ sv, w.cell? ⟨b, o + i * 4 + 3, none⟩ = some sv ∧ IsSpans w B sv x.sp
def IsCond (w : World) (B : Nat) (v : Value) (l : Cnd) : Prop := SlV v l.length B fun b o => ∀ i x, l[i]? = some x → ∃ rv, w.cell? ⟨b, o + i, none⟩ = some rv ∧ IsRels w B rv x
def IsConds (w : World) (B : Nat) (v : Value) (l : List Cnd) : Prop := SlV v l.length B fun b o => ∀ i x, l[i]? = some x → ∃ cv, w.cell? ⟨b, o + i, none⟩ = some cv ∧ IsCond w B cv x
def IsRules (w : World) (B : Nat) (v : Value) (l : List Rul) : Prop := SlV v l.length B fun b o => ∀ i x, l[i]? = some x →
  w.cell? ⟨b, o + i * 2, none⟩ = some (.string x.cls) ∧ ∃ cv, w.cell? ⟨b, o + i * 2 + 1, none⟩ = some cv ∧ IsCond w B cv x.cond
section
variable {w w' : World} {B : Nat} {v : Value}
theorem IsInts.below {xs : List Int} (h : IsInts w B v xs) (hb : Below B w w') : IsInts w' B v xs :=
  h.imp (Nat.le_refl _) fun b o hB hc i hi => (hb.cell (p := ⟨b, o + i, none⟩) hB).trans (hc i hi)
theorem IsSpans.below {l : List Sp} (h : IsSpans w B v l) (hb : Below B w w') : IsSpans w' B v l :=
  h.imp (Nat.le_refl _) fun b o hB hc i x hx => ⟨(hb.cell (p := ⟨b, o + i * 2, none⟩) hB).trans (hc i x hx).1, (hb.cell (p := ⟨b, o + i * 2 + 1, none⟩) hB).trans (hc i x hx).2⟩
theorem IsRels.below {l : List Rel} (h : IsRels w B v l) (hb : Below B w w') : IsRels w' B v l :=
  h.imp (Nat.le_refl _) fun b o hB hc i x hx => by
    obtain ⟨h1, h2, h3, sv, h4, h5⟩ := hc i x hx
    exact ⟨(hb.cell (p := ⟨b, o + i * 4, none⟩) hB).trans h1, (hb.cell (p := ⟨b, o + i * 4 + 1, none⟩) hB).trans h2, (hb.cell (p := ⟨b, o + i * 4 + 2, none⟩) hB).trans h3, sv, (hb.cell (p := ⟨b, o + i * 4 + 3, none⟩) hB).trans h4, h5.below hb⟩
theorem IsCond.below {l : Cnd} (h : IsCond w B v l) (hb : Below B w w') : IsCond w' B v l :=
  h.imp (Nat.le_refl _) fun b o hB hc i x hx => by
    obtain ⟨rv, h1, h2⟩ := hc i x hx
    exact ⟨rv, (hb.cell (p := ⟨b, o + i, none⟩) hB).trans h1, h2.below hb⟩
theorem IsConds.below {l : List Cnd} (h : IsConds w B v l) (hb : Below B w w') : IsConds w' B v l :=
  h.imp (Nat.le_refl _) fun b o hB hc i x hx => by
    obtain ⟨rv, h1, h2⟩ := hc i x hx
    exact ⟨rv, (hb.cell (p := ⟨b, o + i, none⟩) hB).trans h1, h2.below hb⟩
theorem IsRules.below {l : List Rul} (h : IsRules w B v l) (hb : Below B w w') : IsRules w' B v l :=
  h.imp (Nat.le_refl _) fun b o hB hc i x hx => by
    obtain ⟨h0, rv, h1, h2⟩ := hc i x hx
    exact ⟨(hb.cell (p := ⟨b, o + i * 2, none⟩) hB).trans h0, rv, (hb.cell (p := ⟨b, o + i * 2 + 1, none⟩) hB).trans h1, h2.below hb⟩
end
theorem IsInts.new (w : World) (e : TypeId) (xs : List Int) : IsInts (w.alloc (.cells (xs.map (Value.int .i64)).toArray e)) (w.heap.size + 1) (.slice (some ⟨w.heap.size, 0, none⟩) xs.length xs.length) xs :=
  ⟨_, _, rfl, fun _ => ⟨_, _, rfl, by omega, fun i hi => by
    rw [Nat.zero_add, cell_of_row _ _ i _ _ _ (heap_alloc_new w _)]
    simp [hi]⟩⟩

theorem IsInts.made (w : World) (e : TypeId) (xs : List Int) : IsInts (w.alloc (.cells (xs.map (Value.int .i64)).toArray e)) (w.alloc (.cells (xs.map (Value.int .i64)).toArray e)).heap.size (.slice (some ⟨w.heap.size, 0, none⟩) xs.length xs.length) xs :=
  (IsInts.new w e xs).imp (by simp) fun _ _ _ h => h

theorem ret_bool {a b : Bool} (h : a = b) : Ending.returned (.bool a) = .returned (.bool b) := by rw [h]

/-! ### calqueref08.has, Mods, Bound -/
set_option maxRecDepth 100000 in
theorem has_any (v : Value) (xs : List Int) (n : Int) (B : Nat) (w : World) (hv : IsInts w B v xs) (hx : xs.length ≤ 4611686018427387904) : Calls Tryz.prog 72 #[v, .int .i64 n] w fun e w' => e = .returned (.bool (inL xs n)) ∧ w = w' := by
  obtain ⟨ao, cap, rfl, hc⟩ := hv
  have HC := Lib.hid hc
  clear hc
  go_enter Tryz.func72, Tryz.ntmps72
  go_wp2
  go_loopw [5] (fun iv wr => ∃ i : Nat, i ≤ xs.length ∧ iv = .int .i64 i ∧ wr = w ∧ inL xs n = inL (xs.drop i) n) (fun iv _ => xs.length - (intOf iv).toNat)
  case atStart => exact ⟨0, by simp⟩
  case round =>
    obtain ⟨i, hi, rfl, rfl, hcn⟩ := hrel
    have i0 : (0 : Int) ≤ (i : Int) := by omega
    by_cases hlt : i < xs.length
    · have i1 : (i : Int) < (xs.length : Int) := by omega
      obtain ⟨b, o, rfl, _, hcl⟩ := HC.out (by omega)
      have c0 := hcl i hlt
      rw [inL_drop hlt] at hcn
      obtain ⟨x, hx'⟩ : ∃ x, xs.getD i 0 = x := ⟨_, rfl⟩
      rw [hx'] at c0 hcn
      have HCN := Lib.hid hcn
      clear hcl hx' hcn
      by_cases he : x = n
      · subst he
        go_wp2
        go_ret
        exact ⟨ret_bool (by rw [HCN.out]; simp), rfl⟩
      · have he' : (x == n) = false := by simp [he]
        go_wp2
        go_roundw
        case rel => exact ⟨i + 1, by omega, by go_num, trivial, by rw [HCN.out, he', Bool.false_or]⟩
        case measure => simp [intOf] <;> omega
    · have i1 : ¬ (i : Int) < (xs.length : Int) := by omega
      have hd : xs.drop i = [] := List.drop_eq_nil_of_le (by omega)
      rw [hd, inL_nil] at hcn
      have HCN := Lib.hid hcn
      clear hcn hd
      go_wp2
      go_ret
      exact ⟨ret_bool HCN.out.symm, rfl⟩
theorem mods_any (op : Int) (w : World) : Calls Tryz.prog 73 #[.int .i64 op] w fun e w' => ∃ v, e = .returned v ∧ IsInts w' w'.heap.size v (modsL op) ∧ Below w.heap.size w w' := by
  unfold modsL
  by_cases h1 : op = 1 ∨ op = 2
  · rw [if_pos h1]
    rcases h1 with rfl | rfl
    all_goals
      go_enter Tryz.func73, Tryz.ntmps73
      go_wp2
      go_ret
      exact ⟨.slice (some ⟨w.heap.size, 0, none⟩) 10 10, rfl, IsInts.made w 3 [2, 3, 4, 5, 6, 10, 20, 25, 50, 100], (Below.refl _ _).alloc (Nat.le_refl _) _⟩
  · rw [if_neg h1]
    by_cases h2 : op = 5 ∨ op = 6
    · rw [if_pos h2]
      rcases h2 with rfl | rfl
      all_goals
        go_enter Tryz.func73, Tryz.ntmps73
        go_wp2
        go_ret
        exact ⟨.slice (some ⟨w.heap.size, 0, none⟩) 2 2, rfl, IsInts.made w 3 [10, 100], (Below.refl _ _).alloc (Nat.le_refl _) _⟩
    · rw [if_neg h2]
      have a1 : (op == 1) = false := by simp; omega
      have a2 : (op == 2) = false := by simp; omega
      have a5 : (op == 5) = false := by simp; omega
      have a6 : (op == 6) = false := by simp; omega
      clear h1 h2
      go_enter Tryz.func73, Tryz.ntmps73
      go_wp2
      go_ret
      exact ⟨_, rfl, ⟨none, 0, rfl, fun h => absurd h (by simp)⟩, Below.refl _ _⟩
theorem bound_any (op : Int) (w : World) : Calls Tryz.prog 74 #[.int .i64 op] w fun e w' => e = .returned (.int .i64 (boundV op)) ∧ w = w' := by
  unfold boundV
  by_cases h1 : op = 3
  · subst h1
    go_enter Tryz.func74, Tryz.ntmps74
    go_wp2
    go_ret
    exact ⟨rfl, rfl⟩
  · by_cases h2 : op = 4
    · subst h2
      go_enter Tryz.func74, Tryz.ntmps74
      go_wp2
      go_ret
      exact ⟨rfl, rfl⟩
    · rw [if_neg (by omega)]
      have a1 : (op == 3) = false := by simp [h1]
      have a2 : (op == 4) = false := by simp [h2]
      clear h1 h2
      go_enter Tryz.func74, Tryz.ntmps74
      go_wp2
      go_ret
      exact ⟨rfl, rfl⟩
end Go.Proofs.YtbkcmgjmhglghaaGreatDoor
