/-
  append of one slice of the call's own to another, the source nil or not.
-/
import Derived.Test.YtflfdkjbpbjghaaDoorU8W8
import Derived.Laws.AppendOwnNone
namespace Go.Proofs.YtflfdkjbpbjghaaDoor
open Go.RowKit

theorem append_own2 {P : Program} {w : World} {ops : Array Oper} {rest : List Oper} {o : Oper} {a : Act} {Q : Exit → Act → World → Prop} (hgd : o.guard = none) (s x : Operand) (t : TypeId)
    (ho : o.op = .call { callee := .builtin .append, args := #[s, x], argTypes := #[t, t] })
    (base : Nat) (e : TypeId) (i : TypeInfo) (z : Value) (size bytes : Nat) (ht : P.underlying t = some (.slice e)) (hi : P.info? e = some i) (hz : i.zero = some z)
    (hsize : i.size = size) (hby : i.bytes = bytes) (hzs : z.cells.size = size) (hsz : 0 < size)
    (v : Value) (n : Nat) (xs : List Value) (hs : a.eval s = v) (hown : w.ownsRow base e size v n xs)
    (base' : Nat) (u : Value) (m : Nat) (ys : List Value) (hx : a.eval x = u) (hu : w.ownsRow base' e size u m ys) (h1 : ∀ y ∈ ys, y.oneCell' = true)
    (h63 : n + m ≤ maxLen) (hbytes : (n + m) * bytes ≤ 140737488355328) (hbase : base ≤ w.heap.size)
    (h : ∀ v' w', w'.ownsRow base e size v' (n + m) (xs ++ ys) → w.grownBy w' v.ownBlock → wpList P ops Q rest (a.put o.dst v') w') : wpList P ops Q (o :: rest) a w := by
  have hu' := hu
  obtain ⟨hlen, ⟨rfl, rfl⟩ | ⟨g, cap, cur, rfl, hg, hh, hcap, hml, hcs, htk⟩⟩ := hu'
  · have hys : ys = [] := List.eq_nil_of_length_eq_zero (by rw [hlen]; simp)
    subst hys
    refine wpList_append_own_none hgd s x t ho base e i size ht hi v n xs hs hown hx (h v w (by simpa using hown) ⟨rfl, rfl, rfl, Nat.le_refl _, fun _ _ _ => rfl⟩)
  · refine wpList_append_own _ hgd s x t ho base e i z size bytes ht hi hz hsize hby hzs hsz v n xs hs hown ⟨g, 0, none⟩ m cap ys hx hlen (fun j y hj => hu.cells (g := g) rfl j y hj) h1 h63 hbytes hbase (fun v' w' h2 h3 _ => h v' w' h2 h3)
end Go.Proofs.YtflfdkjbpbjghaaDoor
