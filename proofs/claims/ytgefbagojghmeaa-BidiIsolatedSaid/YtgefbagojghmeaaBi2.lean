/-
  bidi.class, own, strong; items that are read.
-/
import Derived.Test.YtgefbagojghmeaaBi1
namespace Go.Proofs.Ytgefbagojghmeaa
open Go.RowKit

set_option maxRecDepth 100000 in
set_option maxHeartbeats 1000000 in
theorem bclass_any (c : Int) (w : World) : Calls Try.prog 57 #[.int .i64 c] w fun e w' => e = .returned (.int .i64 (bcl c)) ∧ w = w' := by
  obtain ⟨k, hk⟩ : ∃ k, bcl c = k := ⟨_, rfl⟩
  rw [hk]
  unfold bcl at hk
  by_cases h4 : 1424 ≤ c <;> by_cases h5 : c ≤ 2303 <;> by_cases h6 : 64285 ≤ c <;> by_cases h7 : c ≤ 65276
  all_goals first | (exfalso; omega) | skip
  all_goals by_cases h8 : 48 ≤ c <;> by_cases h9 : c ≤ 57 <;> by_cases h10 : 65 ≤ c <;> by_cases h11 : c ≤ 90 <;> by_cases h12 : 97 ≤ c <;> by_cases h13 : c ≤ 122
  all_goals first | (exfalso; omega) | skip
  all_goals by_cases h14 : 192 ≤ c <;> by_cases h15 : c < 8192 <;> by_cases h16 : 12287 < c
  all_goals first | (exfalso; omega) | skip
  all_goals
    have HK := Lib.hid hk
    clear hk
    go_enter Try.func57, Try.ntmps57
    go_wp2
    go_ret
    exact ⟨ret_int (by have hk := HK.out; revert hk; repeat' split; all_goals omega), rfl⟩
theorem mod_two (e : Int) : e % 2 = 0 ∨ e % 2 = 1 := by omega

theorem bown_any (e : Int) (h : 0 ≤ e) (w : World) : Calls Try.prog 60 #[.int .i64 e] w fun x w' => x = .returned (.int .i64 (own e)) ∧ w = w' := by
  unfold own
  have e1 : e.tmod 2 = e % 2 := Int.tmod_eq_emod_of_nonneg h
  rcases mod_two e with h0 | h0
  · rw [h0] at e1
    rw [h0]
    go_enter Try.func60, Try.ntmps60
    go_wp2
    go_ret
    exact ⟨rfl, rfl⟩
  · rw [h0] at e1
    rw [h0]
    go_enter Try.func60, Try.ntmps60
    go_wp2
    go_ret
    exact ⟨rfl, rfl⟩
set_option maxRecDepth 100000 in
theorem bstrong_any (d e : Int) (h : 0 ≤ e) (h2 : e ≤ 1000000) (hd : d = 1 ∨ d = 2) (w : World) : Calls Try.prog 61 #[.int .i64 d, .int .i64 e] w fun x w' => x = .returned (.int .i64 (strong e d)) ∧ w = w' := by
  obtain ⟨r, hr⟩ : ∃ r, strong e d = r := ⟨_, rfl⟩
  rw [hr]
  unfold strong at hr
  have e1 : e.tmod 2 = e % 2 := Int.tmod_eq_emod_of_nonneg h
  rcases mod_two e with h0 | h0 <;> rcases hd with rfl | rfl
  · rw [h0] at e1 hr
    rw [if_pos (by decide)] at hr
    subst hr
    clear h0
    go_enter Try.func61, Try.ntmps61
    go_wp2
    go_ret
    exact ⟨rfl, rfl⟩
  · rw [h0] at e1 hr
    rw [if_neg (by decide)] at hr
    subst hr
    clear h0
    go_enter Try.func61, Try.ntmps61
    go_wp2
    go_ret
    exact ⟨rfl, rfl⟩
  · rw [h0] at e1 hr
    rw [if_neg (by decide)] at hr
    subst hr
    clear h0
    go_enter Try.func61, Try.ntmps61
    go_wp2
    go_ret
    exact ⟨rfl, rfl⟩
  · rw [h0] at e1 hr
    rw [if_pos (by decide)] at hr
    subst hr
    clear h0
    go_enter Try.func61, Try.ntmps61
    go_wp2
    go_ret
    exact ⟨rfl, rfl⟩

/-- The cells of items. -/
def flat3 (l : List (Nat × Nat × Int)) : List Value := l.flatMap fun x => [.int .i64 x.1, .int .i64 x.2.1, .int .i64 x.2.2]
theorem flat3_len (l : List (Nat × Nat × Int)) : (flat3 l).length = l.length * 3 := by
  unfold flat3
  induction l with
  | nil => rfl
  | cons x l ih => rw [List.flatMap_cons, List.length_append, ih]; simp; omega
theorem flat3_app (a b : List (Nat × Nat × Int)) : flat3 (a ++ b) = flat3 a ++ flat3 b := by unfold flat3; rw [List.flatMap_append]
theorem flat3_at : ∀ (l : List (Nat × Nat × Int)) (i : Nat) (x : Nat × Nat × Int), l[i]? = some x → (flat3 l)[3 * i]? = some (.int .i64 x.1) ∧ (flat3 l)[3 * i + 1]? = some (.int .i64 x.2.1) ∧ (flat3 l)[3 * i + 2]? = some (.int .i64 x.2.2)
  | [], i, x, h => by simp at h
  | y :: l, 0, x, h => by
    simp at h
    subst h
    exact ⟨rfl, rfl, rfl⟩
  | y :: l, i + 1, x, h => by
    have h : l[i]? = some x := by simpa using h
    obtain ⟨a, b, c⟩ := flat3_at l i x h
    have e : flat3 (y :: l) = [.int .i64 y.1, .int .i64 y.2.1, .int .i64 y.2.2] ++ flat3 l := rfl
    rw [e, show 3 * (i + 1) = 3 * i + 3 by omega]
    refine ⟨?_, ?_, ?_⟩
    · rw [List.getElem?_append_right (by simp)]; simpa using a
    · rw [List.getElem?_append_right (by simp)]; simpa using b
    · rw [List.getElem?_append_right (by simp)]; simpa using c
/-- A slice that reads as items; what it reads lies below block number B. -/
def IsItems (w : World) (B : Nat) (v : Value) (l : List (Nat × Nat × Int)) : Prop :=
  ∃ ao cap, v = .slice ao l.length cap ∧ (0 < l.length → ∃ b o, ao = some ⟨b, o, none⟩ ∧ b < B ∧ ∀ i x, l[i]? = some x →
    w.cell? ⟨b, o + i * 3, none⟩ = some (.int .i64 x.1) ∧ w.cell? ⟨b, o + i * 3 + 1, none⟩ = some (.int .i64 x.2.1) ∧ w.cell? ⟨b, o + i * 3 + 2, none⟩ = some (.int .i64 x.2.2))
theorem IsItems.below {w w' : World} {B : Nat} {v : Value} {l : List (Nat × Nat × Int)} (h : IsItems w B v l) (hb : Below B w w') : IsItems w' B v l := by
  obtain ⟨ao, cap, rfl, h⟩ := h
  refine ⟨ao, cap, rfl, fun hl => ?_⟩
  obtain ⟨b, o, rfl, hB, hc⟩ := h hl
  refine ⟨b, o, rfl, hB, fun i x hi => ?_⟩
  obtain ⟨c0, c1, c2⟩ := hc i x hi
  exact ⟨(hb.cell (p := ⟨b, _, none⟩) hB).trans c0, (hb.cell (p := ⟨b, _, none⟩) hB).trans c1, (hb.cell (p := ⟨b, _, none⟩) hB).trans c2⟩
theorem IsItems.more {w : World} {B B' : Nat} {v : Value} {l : List (Nat × Nat × Int)} (h : IsItems w B v l) (hB : B ≤ B') : IsItems w B' v l := by
  obtain ⟨ao, cap, rfl, h⟩ := h
  refine ⟨ao, cap, rfl, fun hl => ?_⟩
  obtain ⟨b, o, rfl, hB', hc⟩ := h hl
  exact ⟨b, o, rfl, by omega, hc⟩
theorem IsItems.of_own {w : World} {base : Nat} {e : TypeId} {v : Value} {l : List (Nat × Nat × Int)} (h : w.ownsRow base e 3 v l.length (flat3 l)) : IsItems w w.heap.size v l := by
  by_cases hl : 0 < l.length
  · obtain ⟨g, cap, rfl, _, hlt⟩ := h.form hl
    have hc := h.cells (g := g) rfl
    refine ⟨some ⟨g, 0, none⟩, cap, rfl, fun _ => ⟨g, 0, rfl, hlt, fun i x hi => ?_⟩⟩
    obtain ⟨c0, c1, c2⟩ := flat3_at l i x hi
    have e : ∀ j, (⟨g, 0, none⟩ : Addr).add j = ⟨g, 0 + j, none⟩ := by intro j; unfold Addr.add; split <;> simp_all
    have d0 := hc _ _ c0
    have d1 := hc _ _ c1
    have d2 := hc _ _ c2
    rw [e] at d0 d1 d2
    rw [Nat.mul_comm 3 i] at d0 d1 d2
    exact ⟨d0, d1, d2⟩
  · have : l = [] := List.eq_nil_of_length_eq_zero (by omega)
    subst this
    rcases h.2 with ⟨rfl, _⟩ | ⟨g, cap, cur, rfl, _⟩
    · exact ⟨none, 0, rfl, fun hl => absurd hl (by simp)⟩
    · exact ⟨_, cap, rfl, fun hl => absurd hl (by simp)⟩

theorem dirI_drop {cs : List Int} {k : Nat} (hk : k < cs.length) : dirI (cs.drop k) = if cs.getD k 0 = 1 ∨ cs.getD k 0 = 2 then cs.getD k 0 else dirI (cs.drop (k + 1)) := by
  rw [drop_one hk, dirI]
def clsOf (l : List (Nat × Nat × Int)) : List Int := l.map fun x => x.2.2
set_option maxRecDepth 100000 in
set_option maxHeartbeats 1000000 in
theorem bdirection_any (v : Value) (l : List (Nat × Nat × Int)) (B : Nat) (w : World) (hv : IsItems w B v l) (hB : B ≤ w.heap.size) (hl : l.length ≤ 1000000) : Calls Try.prog 41 #[v] w fun x w' => x = .returned (.int .i64 (dirI (clsOf l))) ∧ Below w.heap.size w w' := by
  obtain ⟨ao, ca, rfl, hc⟩ := hv
  obtain ⟨n, hn⟩ : ∃ n, n = l.length := ⟨_, rfl⟩
  rw [← hn] at hc hl
  rw [← hn]
  obtain ⟨R, hR⟩ : ∃ R, dirI (clsOf l) = R := ⟨_, rfl⟩
  rw [hR]
  have hcl : (clsOf l).length = n := by unfold clsOf; rw [List.length_map, hn]
  have HC := Lib.hid hc
  have HN := Lib.hid hn
  have HR := Lib.hid hR
  have HCL := Lib.hid hcl
  clear hc hn hR hcl
  go_enter Try.func41, Try.ntmps41
  go_wp2
  go_loopw [4, 7] (fun _ i wr => ∃ k : Nat, k ≤ n ∧ i = .int .i64 k ∧ R = dirI ((clsOf l).drop k) ∧ Below w.heap.size w wr) (fun _ i _ => n - (intOf i).toNat)
  case atStart => exact ⟨0, Nat.zero_le _, rfl, by rw [List.drop_zero]; exact HR.out.symm, Below.refl _ _⟩
  case round =>
    obtain ⟨k, hk, rfl, hm, hb⟩ := hrel
    by_cases hlt : k < n
    · obtain ⟨b, o, rfl, hbB, hcells⟩ := HC.out (by omega)
      have hx : l[k]? = some (l[k]'(by have := HN.out; omega)) := List.getElem?_eq_getElem _
      obtain ⟨x, hx'⟩ : ∃ x, l[k]'(by have := HN.out; omega) = x := ⟨_, rfl⟩
      rw [hx'] at hx
      obtain ⟨d0, d1, d2⟩ := hcells k x hx
      have c0 := (hb.cell (p := ⟨b, o + k * 3, none⟩) (by show b < w.heap.size; omega)).trans d0
      have c1 := (hb.cell (p := ⟨b, o + k * 3 + 1, none⟩) (by show b < w.heap.size; omega)).trans d1
      have c2 := (hb.cell (p := ⟨b, o + k * 3 + 2, none⟩) (by show b < w.heap.size; omega)).trans d2
      have hcx : (clsOf l).getD k 0 = x.2.2 := by
        have : (clsOf l)[k]? = some x.2.2 := by unfold clsOf; rw [List.getElem?_map, hx]; rfl
        simp [List.getD, this]
      have hd := dirI_drop (cs := clsOf l) (k := k) (by have := HCL.out; omega)
      rw [hcx] at hd
      rw [hd] at hm
      obtain ⟨x0, x1, x2⟩ := x
      dsimp only at c0 c1 c2 hm
      have HB := Lib.hid hb
      have k0 : (0 : Int) ≤ (k : Int) := by omega
      have k1 : (k : Int) < (n : Int) := by omega
      clear hcells hb d0 d1 d2 hx hx' hcx hd
      by_cases h1 : x2 = 1
      · rw [if_pos (.inl h1)] at hm
        subst hm
        go_wp2
        go_ret
        exact ⟨ret_int h1.symm, HB.out.alloc HB.out.size _⟩
      · by_cases h2 : x2 = 2
        · rw [if_pos (.inr h2)] at hm
          subst hm
          go_wp2
          go_ret
          exact ⟨ret_int h2.symm, HB.out.alloc HB.out.size _⟩
        · rw [if_neg (by omega)] at hm
          have HM := Lib.hid hm
          have b1 : (x2 == 1) = false := by simp [h1]
          have b2 : (x2 == 2) = false := by simp [h2]
          clear hm h1 h2
          go_wp2
          go_roundw
          case rel => exact ⟨k + 1, by omega, by go_num, HM.out, HB.out.alloc HB.out.size _⟩
          case measure => simp [intOf]; omega
    · have hd : (clsOf l).drop k = [] := List.drop_eq_nil_of_le (by have := HCL.out; omega)
      rw [hd] at hm
      have hm : R = 0 := hm
      subst hm
      clear hd
      go_wp2
      go_ret
      exact ⟨rfl, hb⟩
end Go.Proofs.Ytgefbagojghmeaa
