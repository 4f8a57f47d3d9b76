/-
  The Go function calque/calquetop.WholeClasses returns true for every input, and each argument reads behind the call as it read before; the listed variables hold what the text lays (the card ties them).
-/
import Derived.Test.YtbkcmgjmhglghaaGreatDoorCards
import Derived.Test.YtbkcmgjmhglghaaGreatDoorTie
import Derived.Test.YtbkcmgjmhglghaaGreatDoorVo1
import Derived.ProofKit
import Derived.OpenShut
import Derived.ShutString
import Derived.ChangeOld
import Derived.Carry
import Derived.SizedLaws
import Derived.Shelf.Vars
import Derived.Lib.LaidTab
import Derived.Lib.LaidIn
import Derived.Deep.DeepHandedRow
import Derived.Deep.DeepWitnessRowRef
namespace Go.Proofs.YtbkcmgjmhglghaaGreatDoor
namespace ProveWholeClasses
open Go.ChangeShapes Go.WideShapes Go.ChangeAt Go.RowKit
open Go.ChangeMaps (open_string shut_string)

theorem own : ownKnob Tryz.prog.godebug = none := by kernel_rfl
theorem laidOut : laidOutB Tryz.prog = true := by kernel_rfl

theorem size_len (s : ByteArray) : s.size = s.data.toList.length := by
  rw [Array.length_toList]
  rfl
/-- What the row's list gives. -/
theorem tab {W : World} (hL : laidMetH Tryz.prog Rows.wholeClassesRow.laid W) : Tab W := by
  have hL' : laidMet Tryz.prog Rows.wholeClassesRow.laid W := hL
  obtain ⟨ps, ⟨_, _, _, _, _, q1, _, _, _, _, ⟨_, _, _, _, _, q2, _, _, _, _, ⟨g', t', cs, fuel, p, q, hg', ht', hvar, hd, _, _⟩, _⟩, _⟩, _⟩ := hL'
  have e3 : (Rows.laid_internal_strconv_uint64pow10 : DataW Unit) = Lib.tabData .u64 Lib.pow10Tab := by kernel_rfl
  rw [e3] at hd
  obtain rfl := Option.some.inj (Tryz.gTab.symm.trans hg')
  obtain rfl := Option.some.inj ((show (Tryz.prog.globals[(1 : Nat)]?).map (·.type) = some 188 by kernel_rfl).symm.trans ht')
  unfold Tab Lib.TabIs
  rw [hvar, ← Lib.cells_of_tab Tryz.underlying188 Tryz.underlying130 (by kernel_rfl) (by kernel_rfl) hd]
/-- What every row's world gives: the variable holds some int. -/
theorem max {W : World} (hsh : W.ShapedOpen Tryz.prog) : Max W :=
  Go.Proofs.cell_of_shapedOpen_int (zero := #[.int .i64 0]) (t := 3) (g := 0) hsh (of_decide_eq_true (by kernel_rfl)) (by kernel_rfl) rfl (by kernel_rfl) (by kernel_rfl) Tryz.underlying3

set_option maxRecDepth 100000 in
theorem contract (H : Type) (enc : TypeId × Value → H) (W : World) (base : Nat) (args : Array Value) (ds gs : List (DataW H)) (before : List MemPlace)
    (hval : ∀ (j : Nat) t v, Tryz.f3.params[j]? = some t → args[j]? = some v → Value.okWide Tryz.prog W .any base t v)
    (hW : DataW.Whole enc Tryz.prog Tryz.f3.params.toList Rows.wholeClassesSpec.vars false W args.toList ds gs before) (hL : laidMetH Tryz.prog Rows.wholeClassesRow.laid W) (hsh : W.ShapedOpen Tryz.prog) (hz : (DataW.weightsEach Tryz.prog (Tryz.f3.params.toList ++ Rows.wholeClassesSpec.plain.varTypes Tryz.prog) (ds ++ gs)).all (· ≤ reachBytes) = true) :
    Calls Tryz.prog 3 args W fun e W' => ∃ v, e = .returned v ∧ Rows.wholeClassesSpec.post enc Tryz.prog Tryz.f3 false true false false W args v W' := by
  have hW' := hW
  obtain ⟨p, q, hA0, hV, rfl, hfz, hnd⟩ := hW
  have hA : DataW.TrodAll enc Tryz.prog W 0 (fun _ => true) true Tryz.f3.params.toList args.toList ds p := hA0
  rw [Tryz.params3] at hA hval
  obtain ⟨v0, vs0, d0, ds0, p0, q0, hargs, rfl, rfl, h0, r0⟩ := trodAll_cons hA
  obtain ⟨v1, vs1, d1, ds1, p1, q1, rfl, rfl, rfl, h1, r1⟩ := trodAll_cons r0
  obtain ⟨rfl, rfl, rfl⟩ := trodAll_nil r1
  obtain rfl : args = #[v0, v1] := by cases args; simp_all
  obtain ⟨rfl, rfl⟩ := trodVars_none hV
  obtain ⟨a1, rfl, rfl, rfl, w1⟩ := open_string Tryz.underlying9 (hval 1 9 v1 rfl rfl) h1
  obtain ⟨b0, len0, cap0, rfl⟩ := okWide_slice Tryz.underlying22 (hval 0 22 v0 rfl rfl)
  have k0 := h0
  have lt0 : ∀ x ∈ p0, x.block < W.heap.size := by obtain ⟨m, hm⟩ := k0; exact DataW.trod_lt m _ _ _ hm
  obtain ⟨fuel, hf⟩ := h0
  have hreach : Reached Tryz.prog 22 d0 := fun n hn => by
    have := List.all_eq_true.1 hz n (DataW.weights_mem_each (j := 0) rfl rfl n hn)
    simpa using this
  have hsz : a1.size ≤ 140737488351232 := by
    have := sized_string hz (j := 1) (t := 9) (bytes := a1.data.toList) rfl rfl
    have e : reachBytes = 140737488351232 := rfl
    rw [e] at this
    exact this
  obtain ⟨ao, cap, l, hv, hcap, hrules, hlen, hall⟩ := rules_in (show DataW.trod enc Tryz.prog W 0 (fun _ => true) true fuel 22 [.slice b0 len0 cap0] = some (d0, p0) from hf) hreach
  rw [hv] at hrules
  clear hz hreach
  clear hA0
  simp only [List.append_nil] at hW'
  rw [hv] at k0 hW' ⊢
  refine (whole_any ao cap l a1 W.heap.size W hrules (Nat.le_refl _) hall hlen hcap hsz (tab hL) (max hsh)).mono fun e W' ⟨he, bel⟩ => ?_
  subst he
  exact ⟨_, rfl, _, _, _, [], _, [], hW', trodAll_cons_mk (shut_bool Tryz.underlying4 _) trodAll_mk0, (trodAll_cons_mk (Below.trod laidOut (by kernel_rfl) (of_decide_eq_true (by kernel_rfl)) k0 bel lt0) (trodAll_cons_mk (shut_string Tryz.underlying9 w1) trodAll_mk0)), rfl, bel.frame _, fun h => by cases h⟩

/-- An array of integers, as cells. -/
def flat : DataW Unit → Array Value
  | .agg l => (l.map fun
    | .lit (.int k z) => Value.int k z
    | _ => undef).toArray
  | _ => #[]
/-- A world for the witness: the settled one with two blocks more (the two errors' structs), the seven variables holding what the text lays. -/
noncomputable def laidWorld (os : Os) : World :=
  let N := (World.settled Tryz.prog os).heap.size
  let w0 := World.holding Tryz.prog os ⟨#[.cells #[.string ⟨#[118, 97, 108, 117, 101, 32, 111, 117, 116, 32, 111, 102, 32, 114, 97, 110, 103, 101]⟩] 210, .cells #[.string ⟨#[105, 110, 118, 97, 108, 105, 100, 32, 115, 121, 110, 116, 97, 120]⟩] 210], #[], []⟩
  let put (h : Array Obj) (g : Nat) (cs : Array Value) : Array Obj := h.modify g fun
    | .cells _ t frozen => .cells cs t frozen
    | o => o
  let h1 := put w0.heap 4 (flat Rows.laid_unicode_utf8_first)
  let h2 := put h1 5 #[.int .u8 128, .int .u8 191, .int .u8 160, .int .u8 191, .int .u8 128, .int .u8 159, .int .u8 144, .int .u8 191, .int .u8 128, .int .u8 143, .int .u8 0, .int .u8 0, .int .u8 0, .int .u8 0, .int .u8 0, .int .u8 0, .int .u8 0, .int .u8 0, .int .u8 0, .int .u8 0, .int .u8 0, .int .u8 0, .int .u8 0, .int .u8 0, .int .u8 0, .int .u8 0, .int .u8 0, .int .u8 0, .int .u8 0, .int .u8 0, .int .u8 0, .int .u8 0]
  let h3 := put h2 6 (flat Rows.laid_math_bits_deBruijn32tab)
  let h4 := put h3 7 (flat Rows.laid_math_bits_deBruijn64tab)
  let h5 := put h4 1 (flat Rows.laid_internal_strconv_uint64pow10)
  let h6 := put h5 3 #[.iface 208 (.pointer (some ⟨N, 0, none⟩))]
  let h7 := put h6 2 #[.iface 208 (.pointer (some ⟨N + 1, 0, none⟩))]
  { w0 with heap := h7 }
noncomputable abbrev N0 : Nat := (World.settled Tryz.prog default).heap.size
theorem laid_met (os : Os) : laidMet Tryz.prog Rows.wholeClassesRow.laid ((laidWorld os).forCall (fun _ _ => 0) ⟨#[], #[.slice none 0 0, .string ⟨#[]⟩], []⟩).memory :=
  (LaidIn.of_run (l := Rows.wholeClassesRow.laid) [4, 5, 6, 7, 1, 3, 2, N0, N0 + 1] 8 (by kernel_rfl) (by kernel_rfl) (by kernel_rfl) (by kernel_rfl)).met
theorem reads (os : Os) {H : Type} (enc : TypeId × Value → H) : ∃ places, DataW.whole enc Tryz.prog ((laidWorld os).forCall (fun _ _ => 0) ⟨#[], #[.slice none 0 0, .string ⟨#[]⟩], []⟩).memory Tryz.f3.params.toList Rows.wholeClassesSpec.vars false (#[.slice none 0 0, .string ⟨#[]⟩] : Array Value).toList 8 = some ([.nil, .lit (.string [])], [], places) :=
  ⟨[], by kernel_rfl⟩

set_option maxRecDepth 100000 in
theorem lifted (os : Os) (started : os.Started) (H : Type) (enc : TypeId × Value → H) (F : Stop.Interp) :
    ReturnsInHanded {} Tryz.checked os 3 .any ((OpenSpec.ofChange Rows.wholeClassesSpec).preRow enc Tryz.prog Tryz.f3 Rows.wholeClassesRow.domain false Rows.wholeClassesRow.laid) (((OpenSpec.ofChange Rows.wholeClassesSpec).at F).post enc Tryz.prog Tryz.f3 false true false false) := by
  obtain ⟨places, hx⟩ := reads os enc
  refine returnsInHanded_of_row (C := Tryz.checked) (s := OpenSpec.ofChange Rows.wholeClassesSpec) own started (by kernel_rfl) Tryz.func3
    (witness_row_atRef (enc := enc) (C := Tryz.checked) false (laidWorld os) #[.slice none 0 0, .string ⟨#[]⟩] rfl (by kernel_rfl) (by kernel_rfl) (by kernel_rfl)
      (OpenSpec.preRow_of_cond 8 hx (by kernel_rfl) (fun k hk => by cases hk) (by kernel_rfl) (laid_met os))) ?_
  intro W base args ds gs before hval hW _ _ hz hL hsh _
  exact contract H enc W base args ds gs before hval hW hL hsh hz

theorem said : Rows.WholeClassesSaid :=
  OpenClaim.holds_of_cond 3 Tryz.f3 rfl rfl rfl rfl rfl rfl rfl ⟨rfl, rfl, rfl, rfl, rfl⟩ rfl rfl rfl rfl rfl (by kernel_rfl) Tryz.func3 (by kernel_rfl)
    (of_decide_eq_true (by kernel_rfl)) (by unfold Func.isWrapper; first | (rw [if_pos (by decide +kernel)]; kernel_rfl) | (rw [if_neg (by decide +kernel)]; exact ⟨rfl, rfl⟩))
    (fun os started H enc _ F => by rw [OpenClaim.pre_eq_preRow]; exact lifted os started H enc F)

theorem plain (f : FuncId) (fn : Func) (hf : Tryz.pinned.checked.prog.funcNamed Rows.wholeClassesRow.func = some f) (hfn : Tryz.pinned.checked.prog.funcs[f]? = some fn) :
    true = Tryz.pinned.checked.prog.looks [] ∧ ∀ (j : Nat) t, fn.params[j]? = some t → Tryz.pinned.checked.prog.wantsStandIn t = false := by
  obtain rfl : f = 3 := Option.some.inj ((show Tryz.prog.funcNamed Rows.wholeClassesRow.func = some 3 by kernel_rfl).symm.trans hf) |>.symm
  obtain rfl : fn = Tryz.f3 := (Option.some.inj (Tryz.func3.symm.trans hfn)).symm
  refine ⟨by kernel_rfl, fun j t ht => ?_⟩
  rw [Tryz.params3] at ht
  have hm := Array.mem_of_getElem? ht
  have ht' : t = 22 ∨ t = 9 := by simpa using hm
  rcases ht' with rfl | rfl
  · exact (show Tryz.prog.wantsStandIn 22 = false by kernel_rfl)
  · exact (show Tryz.prog.wantsStandIn 9 = false by kernel_rfl)

/-- The statement. -/
theorem proved : Rows.WholeClassesCardSaid :=
  Claim7.holds_tied_plain_at .later [] _ _ _ _ said (fun _ h => by cases h) (by kernel_rfl) (fun _ h => by cases h) wholeClasses_row_tie rfl ⟨rfl, rfl⟩ (by kernel_rfl) rfl plain (by kernel_rfl)
#print axioms proved
end ProveWholeClasses
end Go.Proofs.YtbkcmgjmhglghaaGreatDoor
