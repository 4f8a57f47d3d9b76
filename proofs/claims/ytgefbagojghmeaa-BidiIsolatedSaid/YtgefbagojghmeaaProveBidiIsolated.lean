/-
  The Go function calque/calquelaw23.BidiIsolated returns true for every input, and each argument reads behind the call as it read before. Conditions: none.
-/
import Derived.Test.YtgefbagojghmeaaLawBidiIsolated
import Derived.ProofKit
import Derived.Test.YtgefbagojghmeaaRows
import Derived.Test.YtgefbagojghmeaaChecked
import Derived.OpenShut
import Derived.ShutString
import Derived.ChangeOld
import Derived.SizedLaws
import Derived.Lib.SmallJoins
namespace Go.Proofs.Ytgefbagojghmeaa
namespace ProveBidiIsolated
open Go.ChangeShapes Go.WideShapes Go.ChangeAt Go.RowKit Go.Joins
open Go.ChangeMaps (open_string shut_string)

theorem own : ownKnob Try.prog.godebug = none := by kernel_rfl
theorem cellsAround : Try.prog.cellsOf 37 = 4 := by kernel_rfl
set_option maxRecDepth 100000 in
theorem lifted (os : Os) (started : os.Started) (H : Type) (enc : TypeId × Value → H) :
    ReturnsInHanded {} Try.checked os 8 .any (Rows.bidiIsolatedSpec.pre6 enc Try.prog Try.f8 Rows.bidiIsolatedRow.domain false) (Rows.bidiIsolatedSpec.post enc Try.prog Try.f8 false true false false) := by
  refine returnsInHanded_of_change_sized (C := Try.checked) own started (by kernel_rfl) Try.func8
    (ChangeSpec.witness6 (enc := enc) (C := Try.checked) false ⟨#[], #[.agg #[.string ByteArray.empty, .string ByteArray.empty, .int .u8 0, .bool false], .string ByteArray.empty, .string ByteArray.empty], []⟩ 8 (by kernel_rfl) (by kernel_rfl) (by kernel_rfl) (by kernel_rfl)) ?_
  intro W base args ds gs before hval0 hW hcnd hz _
  have hval : ∀ (j : Nat) t v, Try.f8.params[j]? = some t → args[j]? = some v → Value.okWide Try.prog W .any base t v := hval0
  have hW' := hW
  obtain ⟨p, q, hA0, hV, rfl, hfz, hnd⟩ := hW
  have hA : DataW.TrodAll enc Try.prog W 0 (fun _ => true) true Try.f8.params.toList args.toList ds p := hA0
  rw [Try.params8] at hA hval
  obtain ⟨v0, vs0, d0, ds0, p0, q0, hargs, rfl, rfl, h0, r0⟩ := trodAll_cons hA
  obtain ⟨v1, vs1, d1, ds1, p1, q1, rfl, rfl, rfl, h1, r1⟩ := trodAll_cons r0
  obtain ⟨v2, vs2, d2, ds2, p2, q2, rfl, rfl, rfl, h2, r2⟩ := trodAll_cons r1
  obtain ⟨rfl, rfl, rfl⟩ := trodAll_nil r2
  obtain rfl : args = #[v0, v1, v2] := by cases args; simp_all
  obtain ⟨rfl, rfl⟩ := trodVars_none hV
  obtain ⟨c0, c1, c2, c3, y0, y1, y2, y3, m, rfl, rfl, rfl, k0, k1, k2, k3⟩ := open_agg4 Try.underlying37 (by kernel_rfl) cellsAround (hval 0 37 v0 rfl rfl) h0
  obtain ⟨b0, e0, rfl, w0⟩ := DataW.trod_string Try.underlying9 k0
  obtain ⟨b1, e1, rfl, w1⟩ := DataW.trod_string Try.underlying9 k1
  obtain ⟨b2, e2, rfl, w2⟩ := DataW.trod_int Try.underlying5 k2
  obtain ⟨b3, e3, rfl⟩ := DataW.trod_bool Try.underlying4 k3
  simp at e0 e1 e2 e3
  subst e0 e1 e2 e3
  obtain ⟨a1, rfl, rfl, rfl, x1⟩ := open_string Try.underlying9 (hval 1 9 v1 rfl rfl) h1
  obtain ⟨a2, rfl, rfl, rfl, x2⟩ := open_string Try.underlying9 (hval 2 9 v2 rfl rfl) h2
  have z0 : b0.size ≤ 140737488351232 := by
    have := List.all_eq_true.1 hz _ (DataW.weights_mem_each (j := 0) (t := 37) (d := .agg [.lit (.string b0.data.toList), .lit (.string b1.data.toList), .lit (.int .u8 b2), .lit (.bool b3)]) rfl rfl b0.data.toList.length (by have hu : Try.checked.prog.underlying 37 = _ := Try.underlying37; simp [DataW.weights, DataW.weightsEach, hu]))
    have h2 : b0.data.toList.length ≤ reachBytes := by simpa using this
    have e : reachBytes = 140737488351232 := rfl
    rw [e] at h2
    exact h2
  have z1 : b1.size ≤ 140737488351232 := by
    have := List.all_eq_true.1 hz _ (DataW.weights_mem_each (j := 0) (t := 37) (d := .agg [.lit (.string b0.data.toList), .lit (.string b1.data.toList), .lit (.int .u8 b2), .lit (.bool b3)]) rfl rfl b1.data.toList.length (by have hu : Try.checked.prog.underlying 37 = _ := Try.underlying37; simp [DataW.weights, DataW.weightsEach, hu]))
    have h2 : b1.data.toList.length ≤ reachBytes := by simpa using this
    have e : reachBytes = 140737488351232 := rfl
    rw [e] at h2
    exact h2
  have s1 : a1.size ≤ 140737488351232 := by
    have := sized_string hz (j := 1) (t := 9) (bytes := a1.data.toList) rfl rfl
    have e : reachBytes = 140737488351232 := rfl
    rw [e] at this
    exact this
  have s2 : a2.size ≤ 140737488351232 := by
    have := sized_string hz (j := 2) (t := 9) (bytes := a2.data.toList) rfl rfl
    have e : reachBytes = 140737488351232 := rfl
    rw [e] at this
    exact this
  have u2 : 0 ≤ b2 ∧ b2 ≤ 255 := by
    have h := w2
    simp [Lit.wf, IntKind.min, IntKind.max, IntKind.signed, IntKind.bits] at h
    omega
  clear hA0 hval0 hz
  simp only [List.append_nil] at hW'
  refine (law_BidiIsolated b0 b1 b2 b3 a1 a2 z0 z1 s1 s2 u2 W).mono fun e W' ⟨he, bel⟩ => ?_
  subst he
  exact ⟨_, rfl, _, _, _, [], [], [], hW', trodAll_cons_mk (shut_bool Try.underlying4 _) trodAll_mk0, (trodAll_cons_mk (shut_agg4 (y0 := (.lit (.string b0.data.toList), [])) (y1 := (.lit (.string b1.data.toList), [])) (y2 := (.lit (.int .u8 b2), [])) (y3 := (.lit (.bool b3), [])) Try.underlying37 (by kernel_rfl) cellsAround (field_of_Trod (shut_string Try.underlying9 w0) rfl) (field_of_Trod (shut_string Try.underlying9 w1) rfl) (field_of_Trod (shut_int Try.underlying5 w2) rfl) (field_of_Trod (shut_bool Try.underlying4 b3) rfl)) (trodAll_cons_mk (shut_string Try.underlying9 x1) (trodAll_cons_mk (shut_string Try.underlying9 x2) trodAll_mk0))), rfl, bel.frame _, fun h => by cases h⟩

theorem over : Rows.bidiIsolatedRow.holds Try.pinned (OpenSpec.ofChange Rows.bidiIsolatedSpec) :=
  OpenClaim.holds_of_wide 8 Try.f8 rfl rfl rfl rfl rfl rfl rfl ⟨rfl, rfl, rfl, rfl, rfl⟩ rfl rfl rfl rfl rfl (by kernel_rfl) Try.func8 (by kernel_rfl)
    (of_decide_eq_true (by kernel_rfl)) (by unfold Func.isWrapper; first | (rw [if_pos (by decide +kernel)]; kernel_rfl) | (rw [if_neg (by decide +kernel)]; exact ⟨rfl, rfl⟩))
    (fun os started H enc _ => lifted os started H enc)

/-- The statement. -/
theorem proved : Rows.BidiIsolatedSaid := over
#print axioms proved
end ProveBidiIsolated
end Go.Proofs.Ytgefbagojghmeaa
