/-
  decide.greatest, reduced, onWhole.
-/
import Derived.Test.YtbkcmgjmhglghaaGreatDoorWr0
import Derived.Test.YtbkcmgjmhglghaaGreatDoorWp2
namespace Go.Proofs.YtbkcmgjmhglghaaGreatDoor
open Go.RowKit

theorem rel_cells {W : World} {g : Nat} {a b : Int} {c : Bool} {v : Value} (h : W.heap[g]? = some (.cells #[.int .i64 a, .int .i64 b, .bool c, v] 51 (0, 0))) :
    W.cell? ⟨g, 0, none⟩ = some (.int .i64 a) ∧ W.cell? ⟨g, 1, none⟩ = some (.int .i64 b) ∧ W.cell? ⟨g, 2, none⟩ = some (.bool c) ∧ W.cell? ⟨g, 3, none⟩ = some v := by
  refine ⟨?_, ?_, ?_, ?_⟩
  all_goals
    rw [Lib.cell_of_heap h]
    rfl
theorem span_cells {W : World} {g : Nat} {a b : Int} (h : W.heap[g]? = some (.cells #[.int .i64 a, .int .i64 b] 48 (0, 0))) : W.cell? ⟨g, 0, none⟩ = some (.int .i64 a) ∧ W.cell? ⟨g, 1, none⟩ = some (.int .i64 b) := by
  refine ⟨?_, ?_⟩
  all_goals
    rw [Lib.cell_of_heap h]
    rfl
def greatL (l : List Sp) (a : Int) : Int := l.foldl (fun n s => max n s.2) a
theorem greatL_drop {l : List Sp} {i : Nat} {x : Sp} (hx : l[i]? = some x) (a : Int) : greatL (l.drop i) a = greatL (l.drop (i + 1)) (max a x.2) := by
  obtain ⟨hi, he⟩ := List.getElem?_eq_some_iff.1 hx
  rw [List.drop_eq_getElem_cons hi, he]
  rfl

set_option maxRecDepth 100000 in
theorem greatest_any (op md : Int) (nt : Bool) (sv : Value) (sp : List Sp) (B : Nat) (w : World) (hv : IsSpans w B sv sp) (hB : B ≤ w.heap.size) (hx : sp.length ≤ 4) :
    Calls Tryz.prog 55 #[.agg #[.int .i64 op, .int .i64 md, .bool nt, sv]] w fun e w' => e = .returned (.int .i64 (great ⟨op, md, nt, sp⟩)) ∧ Below w.heap.size w w' := by
  obtain ⟨ao, cap, rfl, hc⟩ := hv
  obtain ⟨n, hn⟩ : ∃ n, n = sp.length := ⟨_, rfl⟩
  rw [← hn] at hc hx
  rw [← hn]
  show Calls _ _ _ _ fun e w' => e = .returned (.int .i64 (greatL sp 0)) ∧ _
  have HC := Lib.hid hc
  have HN := Lib.hid hn
  clear hc hn
  go_enter Tryz.func55, Tryz.ntmps55
  go_wp2
  go_loopw [3, 9] (fun nv iv wr => ∃ (i : Nat) (m : Int), i ≤ n ∧ iv = .int .i64 i ∧ nv = .int .i64 m ∧ greatL sp 0 = greatL (sp.drop i) m ∧ Below w.heap.size w wr) (fun _ iv _ => n - (intOf iv).toNat)
  case atStart => exact ⟨0, 0, Nat.zero_le _, rfl, rfl, by rw [List.drop_zero], (Below.refl _ _).alloc (Nat.le_refl _) _⟩
  case round =>
    obtain ⟨i, m, hi, rfl, rfl, hg, hb⟩ := hrel
    have HBW := Lib.hid hb
    have i0 : (0 : Int) ≤ (i : Int) := by omega
    by_cases hlt : i < n
    · have i1 : (i : Int) < (n : Int) := by omega
      have hil : i < sp.length := by have := HN.out; omega
      obtain ⟨x, hx'⟩ : ∃ x, sp[i]? = some x := ⟨_, List.getElem?_eq_getElem hil⟩
      rw [greatL_drop hx'] at hg
      obtain ⟨b, o, rfl, hbB, hcl⟩ := HC.out (by omega)
      obtain ⟨d0, d1⟩ := hcl i x hx'
      have e0 := (hb.cell (p := ⟨b, o + i * 2, none⟩) (by show b < w.heap.size; omega)).trans d0
      have e1 := (hb.cell (p := ⟨b, o + i * 2 + 1, none⟩) (by show b < w.heap.size; omega)).trans d1
      obtain ⟨x1, x2⟩ := x
      have HG := Lib.hid hg
      clear hcl d0 d1 hx' hb hg
      go_wp2
      go_roundw
      case rel => exact ⟨i + 1, _, by omega, by go_num, rfl, by rw [HG.out]; congr 1; dsimp only; split <;> omega, HBW.out.alloc HBW.out.size _⟩
      case measure => simp [intOf] <;> omega
    · have i1 : ¬ (i : Int) < (n : Int) := by omega
      have hd : sp.drop i = [] := List.drop_eq_nil_of_le (by have := HN.out; omega)
      rw [hd] at hg
      have HG := Lib.hid hg
      clear hg hd hb
      go_wp2
      go_ret
      exact ⟨by rw [HG.out]; rfl, HBW.out⟩
set_option maxRecDepth 100000 in
theorem reduced_any (op md : Int) (nt : Bool) (sv : Value) (sp : List Sp) (x : Int) (B : Nat) (w : World) (hv : IsSpans w B sv sp) (hB : B ≤ w.heap.size) (hr : relB ⟨op, md, nt, sp⟩ = true) (hx0 : 0 ≤ x) :
    Calls Tryz.prog 77 #[.agg #[.int .i64 op, .int .i64 md, .bool nt, sv], .int .i64 x] w fun e w' => e = .returned (.int .i64 (red ⟨op, md, nt, sp⟩ x)) ∧ Below w.heap.size w w' := by
  have hl := great_le hr
  have hl0 := great_nonneg ⟨op, md, nt, sp⟩
  have h4 := (relB_sp hr).2
  have hm := relB_md hr
  unfold red
  simp only at hm ⊢
  have hg := fun (W : World) (hb : Below w.heap.size w W) => greatest_any op md nt sv sp B W (by exact hv.imp (Nat.le_refl _) fun b o hB' h i x hx => ⟨(hb.cell (p := ⟨b, o + i * 2, none⟩) (by show b < w.heap.size; omega)).trans (h i x hx).1, (hb.cell (p := ⟨b, o + i * 2 + 1, none⟩) (by show b < w.heap.size; omega)).trans (h i x hx).2⟩) (Nat.le_trans hB hb.size) h4
  generalize great ⟨op, md, nt, sp⟩ = g at *
  have HG := Lib.hid hg
  have HB1 := Lib.hid (show Below w.heap.size w (w.alloc (.cells #[.int .i64 op, .int .i64 md, .bool nt, sv] 51)) from (Below.refl _ _).alloc (Nat.le_refl _) _)
  clear hv hr hg h4
  by_cases h0 : md = 0
  · subst h0
    rw [if_pos rfl]
    clear hm
    go_enter Tryz.func77, Tryz.ntmps77
    go_wp2_with (go_at_call 55; refine (HG.out _ HB1.out).mono ?_; rintro e w5 ⟨rfl, hb5⟩; have HB5 := Lib.hid hb5; clear hb5)
    all_goals
      go_ret
      exact ⟨congrArg (fun z => Ending.returned (Value.int .i64 z)) (by omega), HB1.out.trans (HB5.out.mono HB1.out.size)⟩
  · rw [if_neg h0]
    have hm2 : 2 ≤ md ∧ md ≤ 100 := by
      rcases hm with h | h
      · exact absurd h h0
      · have := modsL_le h
        omega
    clear hm HG
    go_enter Tryz.func77, Tryz.ntmps77
    go_wp2
    go_ret
    exact ⟨congrArg (fun z => Ending.returned (Value.int .i64 z)) rfl, HB1.out⟩
set_option maxRecDepth 100000 in
theorem onWhole_any (op md : Int) (nt : Bool) (sv : Value) (sp : List Sp) (w : World) :
    Calls Tryz.prog 76 #[.agg #[.int .i64 op, .int .i64 md, .bool nt, sv]] w fun e w' => e = .returned (.bool (onWh ⟨op, md, nt, sp⟩)) ∧ Below w.heap.size w w' := by
  have HB1 := Lib.hid (show Below w.heap.size w (w.alloc (.cells #[.int .i64 op, .int .i64 md, .bool nt, sv] 51)) from (Below.refl _ _).alloc (Nat.le_refl _) _)
  unfold onWh
  by_cases h2 : op = 2
  · subst h2
    go_enter Tryz.func76, Tryz.ntmps76
    go_wp2
    go_ret
    exact ⟨ret_bool (by simp), HB1.out⟩
  · have h2' : (op == 2) = false := by simp [h2]
    by_cases h1 : op = 1
    · subst h1
      go_enter Tryz.func76, Tryz.ntmps76
      go_wp2
      go_ret
      exact ⟨ret_bool (by simp), HB1.out⟩
    · have h1' : (op == 1) = false := by simp [h1]
      go_enter Tryz.func76, Tryz.ntmps76
      go_wp2
      go_ret
      exact ⟨ret_bool (by simp [h1, h2]), HB1.out⟩
end Go.Proofs.YtbkcmgjmhglghaaGreatDoor
