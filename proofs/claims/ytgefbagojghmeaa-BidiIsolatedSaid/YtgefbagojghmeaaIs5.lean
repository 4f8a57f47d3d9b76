/-
  bidi.Depth; the examples of layer 24 hold.
-/
import Derived.Test.YtgefbagojghmeaaBd1
import Derived.Test.YtgefbagojghmeaaIs3
namespace Go.Proofs.Ytgefbagojghmeaa
open Go.RowKit

def TrueP (w : World) (e : Ending) (w' : World) : Prop := e = .returned (.bool true) ∧ Below w.heap.size w w'
def DepthP (xs : List Int) (w : World) (e : Ending) (w' : World) : Prop := e = .returned (.int .i64 (rdRun xs.length xs).2.2) ∧ Below w.heap.size w w'

theorem field_depth (a b : Option Addr) (c d e f : Nat) (x : Int) (w : World) : Sem.run Try.prog (Instr.field 49 (.agg #[.slice a c d, .slice b e f, .int .i64 x]) 2) w = .ok (.int .i64 x) w := by
  rfl
set_option maxRecDepth 100000 in
theorem depth_any (s : ByteArray) (hs : s.size ≤ 10000) (w : World) : Calls Try.prog 16 #[.string s] w (DepthP (ints (U8.els s.data.toList)) w) := by
  have hr := read_any s hs
  obtain ⟨xs, hxs⟩ : ∃ xs, ints (U8.els s.data.toList) = xs := ⟨_, rfl⟩
  rw [hxs] at hr ⊢
  have HR := Lib.hid hr
  clear hr hxs
  go_enter Try.func16, Try.ntmps16
  go_wp2_with fail
  refine (HR.out _).mono ?_
  rintro e w1 ⟨v, rfl, ⟨_, _, rfl, ⟨ao, ca, rfl, _⟩, ⟨ao2, ca2, rfl, _⟩⟩, hb1⟩
  have HB1 := Lib.hid hb1
  clear hb1
  go_wp2
  rw [field_depth]
  simp only [Result.andThen]
  rw [Oper.upon_value]
  go_wp2
  go_ret
  exact ⟨rfl, HB1.out⟩

theorem balance_awake (w : World) : Calls Try.prog 31 #[.string ⟨#[97, 226, 129, 169, 98, 226, 129, 166, 99]⟩] w fun e w' => e = .returned (.string ⟨#[97, 98, 226, 129, 166, 99, 226, 129, 169]⟩) ∧ Below w.heap.size w w' := by
  refine (balance_any ⟨#[97, 226, 129, 169, 98, 226, 129, 166, 99]⟩ (by decide) w).mono ?_
  rintro e w' ⟨he, hb⟩
  have h : encS (bal (ints (U8.els (⟨#[97, 226, 129, 169, 98, 226, 129, 166, 99]⟩ : ByteArray).data.toList))) = ⟨#[97, 98, 226, 129, 166, 99, 226, 129, 169]⟩ := by decide +kernel
  rw [h] at he
  exact ⟨he, hb⟩
theorem wrap_awake (w : World) : Calls Try.prog 32 #[.string ⟨#[120]⟩] w fun e w' => e = .returned (.string ⟨#[226, 129, 168, 120, 226, 129, 169]⟩) ∧ Below w.heap.size w w' := by
  refine (wrap_any ⟨#[120]⟩ (by decide) w).mono ?_
  rintro e w' ⟨he, hb⟩
  have h : encS (wrapL (ints (U8.els (⟨#[120]⟩ : ByteArray).data.toList))) = ⟨#[226, 129, 168, 120, 226, 129, 169]⟩ := by decide +kernel
  rw [h] at he
  exact ⟨he, hb⟩

set_option maxRecDepth 100000 in
theorem awake24_any (w : World) : Calls Try.prog 11 #[] w (TrueP w) := by
  go_enter Try.func11, Try.ntmps11
  go_wp2_with fail
  refine (balance_awake _).mono ?_
  rintro e w1 ⟨rfl, hb1⟩
  have HB1 := Lib.hid hb1
  clear hb1
  go_wp2_with fail
  refine (wrap_awake _).mono ?_
  rintro e w2 ⟨rfl, hb2⟩
  have HB2 := Lib.hid (HB1.out.trans (hb2.mono HB1.out.size))
  clear hb2
  go_wp2
  go_ret
  exact ⟨rfl, HB2.out⟩
end Go.Proofs.Ytgefbagojghmeaa
