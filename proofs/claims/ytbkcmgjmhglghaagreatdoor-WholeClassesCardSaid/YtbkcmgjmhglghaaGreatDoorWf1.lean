/-
  slices.IndexFunc, slices.ContainsFunc at relations, lists of relations, rules and spans.
-/
import Derived.Test.YtbkcmgjmhglghaaGreatDoorWb2
namespace Go.Proofs.YtbkcmgjmhglghaaGreatDoor
open Go.RowKit

/-- The function g, with what it holds bound, answers p for the elements of a row. -/
def Asks (g : Nat) (lb : Array Value) (n : Nat) (arg : Nat → Value) (p : Nat → Bool) (w : World) : Prop :=
  ∀ (W : World) (i : Nat), Below w.heap.size w W → i < n → Calls Tryz.prog g (#[arg i] ++ lb) W fun e w' => e = .returned (.bool (p i)) ∧ Below w.heap.size w w'
def anyN (n : Nat) (p : Nat → Bool) : Bool := (List.range n).any p
theorem anyN_true {n i : Nat} {p : Nat → Bool} (hi : i < n) (h : p i = true) : anyN n p = true := List.any_eq_true.2 ⟨i, List.mem_range.2 hi, h⟩
theorem anyN_false {n : Nat} {p : Nat → Bool} (h : ∀ i, i < n → p i = false) : anyN n p = false := by
  rw [Bool.eq_false_iff]
  intro ha
  obtain ⟨i, hi, hp⟩ := List.any_eq_true.1 ha
  rw [h i (List.mem_range.1 hi)] at hp
  cases hp
set_option maxRecDepth 100000 in
set_option maxHeartbeats 800000 in
theorem indexFuncRel_any (g : Nat) (lb : Array Value) (eg : ∀ args W, (callFunc g args).run Tryz.prog W = .ok (.enter g args) W) (ao : Option Addr) (n cap B : Nat) (x0 x1 x2 x3 : Nat → Value) (p : Nat → Bool) (w : World) (hn : n ≤ 1000000) (hB : B ≤ w.heap.size)
    (hc : 0 < n → ∃ b o, ao = some ⟨b, o, none⟩ ∧ b < B ∧ ∀ i, i < n → w.cell? ⟨b, o + i * 4, none⟩ = some (x0 i) ∧ w.cell? ⟨b, o + i * 4 + 1, none⟩ = some (x1 i) ∧ w.cell? ⟨b, o + i * 4 + 2, none⟩ = some (x2 i) ∧ w.cell? ⟨b, o + i * 4 + 3, none⟩ = some (x3 i)) (hp : Asks g lb n (fun i => .agg #[x0 i, x1 i, x2 i, x3 i]) p w) :
    Calls Tryz.prog 69 #[.slice ao n cap, .func (.func g) #[] lb] w fun e w' => ∃ z : Int, e = .returned (.int .i64 z) ∧ anyN n p = decide (0 ≤ z) ∧ Below w.heap.size w w' := by
  have HC := Lib.hid hc
  have HP := Lib.hid hp
  clear hc hp
  go_enter Tryz.func69, Tryz.ntmps69
  go_wp2
  go_loopw [8] (fun iv wr => ∃ i : Nat, i ≤ n ∧ iv = .int .i64 i ∧ (∀ j, j < i → p j = false) ∧ Below w.heap.size w wr) (fun iv _ => n - (intOf iv).toNat)
  case atStart => exact ⟨0, Nat.zero_le _, rfl, fun _ h => by omega, Below.refl _ _⟩
  case round =>
    obtain ⟨i, hi, rfl, hno, hb⟩ := hrel
    have HNO := Lib.hid hno
    have i0 : (0 : Int) ≤ (i : Int) := by omega
    by_cases hlt : i < n
    · have i1 : (i : Int) < (n : Int) := by omega
      obtain ⟨b, o, rfl, hbB, hcc⟩ := HC.out (by omega)
      obtain ⟨c0, c1, c2, c3⟩ := hcc i hlt
      have e0 := (hb.cell (p := ⟨b, o + i * 4, none⟩) (by show b < w.heap.size; omega)).trans c0
      have e1 := (hb.cell (p := ⟨b, o + i * 4 + 1, none⟩) (by show b < w.heap.size; omega)).trans c1
      have e2 := (hb.cell (p := ⟨b, o + i * 4 + 2, none⟩) (by show b < w.heap.size; omega)).trans c2
      have e3 := (hb.cell (p := ⟨b, o + i * 4 + 3, none⟩) (by show b < w.heap.size; omega)).trans c3
      have hcall := HP.out wr i hb hlt
      have HCALL := Lib.hid hcall
      clear hcall hcc hno hb c0 c1 c2 c3
      cases hq : p i with
      | true =>
        have hcall := HCALL.out
        rw [hq] at hcall
        clear HCALL
        have HCALL := Lib.hid hcall
        have HQ := Lib.hid (anyN_true hlt hq)
        clear hcall hq
        go_wp2_with (go_at_fn g; refine (HCALL.out).mono ?_; rintro e w5 ⟨rfl, hb5⟩; have HB5 := Lib.hid hb5; clear hb5)
        go_ret
        exact ⟨_, rfl, by rw [HQ.out]; exact (decide_eq_true (by omega)).symm, HB5.out⟩
      | false =>
        have hcall := HCALL.out
        rw [hq] at hcall
        clear HCALL
        have HCALL := Lib.hid hcall
        have HQ := Lib.hid hq
        clear hcall hq
        go_wp2_with (go_at_fn g; refine (HCALL.out).mono ?_; rintro e w5 ⟨rfl, hb5⟩; have HB5 := Lib.hid hb5; clear hb5)
        go_roundw
        case rel =>
          refine ⟨i + 1, by omega, by go_num, fun j hj => ?_, HB5.out⟩
          by_cases he : j = i
          · subst he
            exact HQ.out
          · exact HNO.out j (by omega)
        case measure => simp [intOf] <;> omega
    · have i1 : ¬ (i : Int) < (n : Int) := by omega
      have HB5 := Lib.hid hb
      have hin : i = n := by omega
      have HQ := Lib.hid (anyN_false (n := n) (fun j hj => hno j (by omega)))
      clear hb hno hin
      go_wp2
      go_ret
      exact ⟨_, rfl, by rw [HQ.out]; rfl, HB5.out⟩
set_option maxRecDepth 100000 in
theorem containsFuncRel_any (g : Nat) (lb : Array Value) (eg : ∀ args W, (callFunc g args).run Tryz.prog W = .ok (.enter g args) W) (ao : Option Addr) (n cap B : Nat) (x0 x1 x2 x3 : Nat → Value) (p : Nat → Bool) (w : World) (hn : n ≤ 1000000) (hB : B ≤ w.heap.size)
    (hc : 0 < n → ∃ b o, ao = some ⟨b, o, none⟩ ∧ b < B ∧ ∀ i, i < n → w.cell? ⟨b, o + i * 4, none⟩ = some (x0 i) ∧ w.cell? ⟨b, o + i * 4 + 1, none⟩ = some (x1 i) ∧ w.cell? ⟨b, o + i * 4 + 2, none⟩ = some (x2 i) ∧ w.cell? ⟨b, o + i * 4 + 3, none⟩ = some (x3 i)) (hp : Asks g lb n (fun i => .agg #[x0 i, x1 i, x2 i, x3 i]) p w) :
    Calls Tryz.prog 47 #[.slice ao n cap, .func (.func g) #[] lb] w fun e w' => e = .returned (.bool (anyN n p)) ∧ Below w.heap.size w w' := by
  have hi := indexFuncRel_any g lb eg ao n cap B x0 x1 x2 x3 p w hn hB hc hp
  have HI := Lib.hid hi
  clear hi hc hp
  go_enter Tryz.func47, Tryz.ntmps47
  go_wp2_with (go_at_call 69; refine (HI.out).mono ?_; rintro e w5 ⟨z, rfl, hz, hb5⟩; have HZ := Lib.hid hz; have HB5 := Lib.hid hb5; clear hz hb5)
  go_ret
  exact ⟨ret_bool (by rw [HZ.out]), HB5.out⟩
set_option maxRecDepth 100000 in
set_option maxHeartbeats 800000 in
theorem indexFuncLst_any (g : Nat) (lb : Array Value) (eg : ∀ args W, (callFunc g args).run Tryz.prog W = .ok (.enter g args) W) (ao : Option Addr) (n cap B : Nat) (x0 : Nat → Value) (p : Nat → Bool) (w : World) (hn : n ≤ 1000000) (hB : B ≤ w.heap.size)
    (hc : 0 < n → ∃ b o, ao = some ⟨b, o, none⟩ ∧ b < B ∧ ∀ i, i < n → w.cell? ⟨b, o + i, none⟩ = some (x0 i)) (hp : Asks g lb n (fun i => x0 i) p w) :
    Calls Tryz.prog 68 #[.slice ao n cap, .func (.func g) #[] lb] w fun e w' => ∃ z : Int, e = .returned (.int .i64 z) ∧ anyN n p = decide (0 ≤ z) ∧ Below w.heap.size w w' := by
  have HC := Lib.hid hc
  have HP := Lib.hid hp
  clear hc hp
  go_enter Tryz.func68, Tryz.ntmps68
  go_wp2
  go_loopw [8] (fun iv wr => ∃ i : Nat, i ≤ n ∧ iv = .int .i64 i ∧ (∀ j, j < i → p j = false) ∧ Below w.heap.size w wr) (fun iv _ => n - (intOf iv).toNat)
  case atStart => exact ⟨0, Nat.zero_le _, rfl, fun _ h => by omega, Below.refl _ _⟩
  case round =>
    obtain ⟨i, hi, rfl, hno, hb⟩ := hrel
    have HNO := Lib.hid hno
    have i0 : (0 : Int) ≤ (i : Int) := by omega
    by_cases hlt : i < n
    · have i1 : (i : Int) < (n : Int) := by omega
      obtain ⟨b, o, rfl, hbB, hcc⟩ := HC.out (by omega)
      obtain c0 := hcc i hlt
      have e0 := (hb.cell (p := ⟨b, o + i, none⟩) (by show b < w.heap.size; omega)).trans c0
      have hcall := HP.out wr i hb hlt
      have HCALL := Lib.hid hcall
      clear hcall hcc hno hb c0
      cases hq : p i with
      | true =>
        have hcall := HCALL.out
        rw [hq] at hcall
        clear HCALL
        have HCALL := Lib.hid hcall
        have HQ := Lib.hid (anyN_true hlt hq)
        clear hcall hq
        go_wp2_with (go_at_fn g; refine (HCALL.out).mono ?_; rintro e w5 ⟨rfl, hb5⟩; have HB5 := Lib.hid hb5; clear hb5)
        go_ret
        exact ⟨_, rfl, by rw [HQ.out]; exact (decide_eq_true (by omega)).symm, HB5.out⟩
      | false =>
        have hcall := HCALL.out
        rw [hq] at hcall
        clear HCALL
        have HCALL := Lib.hid hcall
        have HQ := Lib.hid hq
        clear hcall hq
        go_wp2_with (go_at_fn g; refine (HCALL.out).mono ?_; rintro e w5 ⟨rfl, hb5⟩; have HB5 := Lib.hid hb5; clear hb5)
        go_roundw
        case rel =>
          refine ⟨i + 1, by omega, by go_num, fun j hj => ?_, HB5.out⟩
          by_cases he : j = i
          · subst he
            exact HQ.out
          · exact HNO.out j (by omega)
        case measure => simp [intOf] <;> omega
    · have i1 : ¬ (i : Int) < (n : Int) := by omega
      have HB5 := Lib.hid hb
      have hin : i = n := by omega
      have HQ := Lib.hid (anyN_false (n := n) (fun j hj => hno j (by omega)))
      clear hb hno hin
      go_wp2
      go_ret
      exact ⟨_, rfl, by rw [HQ.out]; rfl, HB5.out⟩
set_option maxRecDepth 100000 in
theorem containsFuncLst_any (g : Nat) (lb : Array Value) (eg : ∀ args W, (callFunc g args).run Tryz.prog W = .ok (.enter g args) W) (ao : Option Addr) (n cap B : Nat) (x0 : Nat → Value) (p : Nat → Bool) (w : World) (hn : n ≤ 1000000) (hB : B ≤ w.heap.size)
    (hc : 0 < n → ∃ b o, ao = some ⟨b, o, none⟩ ∧ b < B ∧ ∀ i, i < n → w.cell? ⟨b, o + i, none⟩ = some (x0 i)) (hp : Asks g lb n (fun i => x0 i) p w) :
    Calls Tryz.prog 45 #[.slice ao n cap, .func (.func g) #[] lb] w fun e w' => e = .returned (.bool (anyN n p)) ∧ Below w.heap.size w w' := by
  have hi := indexFuncLst_any g lb eg ao n cap B x0 p w hn hB hc hp
  have HI := Lib.hid hi
  clear hi hc hp
  go_enter Tryz.func45, Tryz.ntmps45
  go_wp2_with (go_at_call 68; refine (HI.out).mono ?_; rintro e w5 ⟨z, rfl, hz, hb5⟩; have HZ := Lib.hid hz; have HB5 := Lib.hid hb5; clear hz hb5)
  go_ret
  exact ⟨ret_bool (by rw [HZ.out]), HB5.out⟩
set_option maxRecDepth 100000 in
set_option maxHeartbeats 800000 in
theorem indexFuncRul_any (g : Nat) (lb : Array Value) (eg : ∀ args W, (callFunc g args).run Tryz.prog W = .ok (.enter g args) W) (ao : Option Addr) (n cap B : Nat) (x0 x1 : Nat → Value) (p : Nat → Bool) (w : World) (hn : n ≤ 1000000) (hB : B ≤ w.heap.size)
    (hc : 0 < n → ∃ b o, ao = some ⟨b, o, none⟩ ∧ b < B ∧ ∀ i, i < n → w.cell? ⟨b, o + i * 2, none⟩ = some (x0 i) ∧ w.cell? ⟨b, o + i * 2 + 1, none⟩ = some (x1 i)) (hp : Asks g lb n (fun i => .agg #[x0 i, x1 i]) p w) :
    Calls Tryz.prog 66 #[.slice ao n cap, .func (.func g) #[] lb] w fun e w' => ∃ z : Int, e = .returned (.int .i64 z) ∧ anyN n p = decide (0 ≤ z) ∧ Below w.heap.size w w' := by
  have HC := Lib.hid hc
  have HP := Lib.hid hp
  clear hc hp
  go_enter Tryz.func66, Tryz.ntmps66
  go_wp2
  go_loopw [8] (fun iv wr => ∃ i : Nat, i ≤ n ∧ iv = .int .i64 i ∧ (∀ j, j < i → p j = false) ∧ Below w.heap.size w wr) (fun iv _ => n - (intOf iv).toNat)
  case atStart => exact ⟨0, Nat.zero_le _, rfl, fun _ h => by omega, Below.refl _ _⟩
  case round =>
    obtain ⟨i, hi, rfl, hno, hb⟩ := hrel
    have HNO := Lib.hid hno
    have i0 : (0 : Int) ≤ (i : Int) := by omega
    by_cases hlt : i < n
    · have i1 : (i : Int) < (n : Int) := by omega
      obtain ⟨b, o, rfl, hbB, hcc⟩ := HC.out (by omega)
      obtain ⟨c0, c1⟩ := hcc i hlt
      have e0 := (hb.cell (p := ⟨b, o + i * 2, none⟩) (by show b < w.heap.size; omega)).trans c0
      have e1 := (hb.cell (p := ⟨b, o + i * 2 + 1, none⟩) (by show b < w.heap.size; omega)).trans c1
      have hcall := HP.out wr i hb hlt
      have HCALL := Lib.hid hcall
      clear hcall hcc hno hb c0 c1
      cases hq : p i with
      | true =>
        have hcall := HCALL.out
        rw [hq] at hcall
        clear HCALL
        have HCALL := Lib.hid hcall
        have HQ := Lib.hid (anyN_true hlt hq)
        clear hcall hq
        go_wp2_with (go_at_fn g; refine (HCALL.out).mono ?_; rintro e w5 ⟨rfl, hb5⟩; have HB5 := Lib.hid hb5; clear hb5)
        go_ret
        exact ⟨_, rfl, by rw [HQ.out]; exact (decide_eq_true (by omega)).symm, HB5.out⟩
      | false =>
        have hcall := HCALL.out
        rw [hq] at hcall
        clear HCALL
        have HCALL := Lib.hid hcall
        have HQ := Lib.hid hq
        clear hcall hq
        go_wp2_with (go_at_fn g; refine (HCALL.out).mono ?_; rintro e w5 ⟨rfl, hb5⟩; have HB5 := Lib.hid hb5; clear hb5)
        go_roundw
        case rel =>
          refine ⟨i + 1, by omega, by go_num, fun j hj => ?_, HB5.out⟩
          by_cases he : j = i
          · subst he
            exact HQ.out
          · exact HNO.out j (by omega)
        case measure => simp [intOf] <;> omega
    · have i1 : ¬ (i : Int) < (n : Int) := by omega
      have HB5 := Lib.hid hb
      have hin : i = n := by omega
      have HQ := Lib.hid (anyN_false (n := n) (fun j hj => hno j (by omega)))
      clear hb hno hin
      go_wp2
      go_ret
      exact ⟨_, rfl, by rw [HQ.out]; rfl, HB5.out⟩
set_option maxRecDepth 100000 in
theorem containsFuncRul_any (g : Nat) (lb : Array Value) (eg : ∀ args W, (callFunc g args).run Tryz.prog W = .ok (.enter g args) W) (ao : Option Addr) (n cap B : Nat) (x0 x1 : Nat → Value) (p : Nat → Bool) (w : World) (hn : n ≤ 1000000) (hB : B ≤ w.heap.size)
    (hc : 0 < n → ∃ b o, ao = some ⟨b, o, none⟩ ∧ b < B ∧ ∀ i, i < n → w.cell? ⟨b, o + i * 2, none⟩ = some (x0 i) ∧ w.cell? ⟨b, o + i * 2 + 1, none⟩ = some (x1 i)) (hp : Asks g lb n (fun i => .agg #[x0 i, x1 i]) p w) :
    Calls Tryz.prog 42 #[.slice ao n cap, .func (.func g) #[] lb] w fun e w' => e = .returned (.bool (anyN n p)) ∧ Below w.heap.size w w' := by
  have hi := indexFuncRul_any g lb eg ao n cap B x0 x1 p w hn hB hc hp
  have HI := Lib.hid hi
  clear hi hc hp
  go_enter Tryz.func42, Tryz.ntmps42
  go_wp2_with (go_at_call 66; refine (HI.out).mono ?_; rintro e w5 ⟨z, rfl, hz, hb5⟩; have HZ := Lib.hid hz; have HB5 := Lib.hid hb5; clear hz hb5)
  go_ret
  exact ⟨ret_bool (by rw [HZ.out]), HB5.out⟩
set_option maxRecDepth 100000 in
set_option maxHeartbeats 800000 in
theorem indexFuncSpn_any (g : Nat) (lb : Array Value) (eg : ∀ args W, (callFunc g args).run Tryz.prog W = .ok (.enter g args) W) (ao : Option Addr) (n cap B : Nat) (x0 x1 : Nat → Value) (p : Nat → Bool) (w : World) (hn : n ≤ 1000000) (hB : B ≤ w.heap.size)
    (hc : 0 < n → ∃ b o, ao = some ⟨b, o, none⟩ ∧ b < B ∧ ∀ i, i < n → w.cell? ⟨b, o + i * 2, none⟩ = some (x0 i) ∧ w.cell? ⟨b, o + i * 2 + 1, none⟩ = some (x1 i)) (hp : Asks g lb n (fun i => .agg #[x0 i, x1 i]) p w) :
    Calls Tryz.prog 107 #[.slice ao n cap, .func (.func g) #[] lb] w fun e w' => ∃ z : Int, e = .returned (.int .i64 z) ∧ anyN n p = decide (0 ≤ z) ∧ Below w.heap.size w w' := by
  have HC := Lib.hid hc
  have HP := Lib.hid hp
  clear hc hp
  go_enter Tryz.func107, Tryz.ntmps107
  go_wp2
  go_loopw [8] (fun iv wr => ∃ i : Nat, i ≤ n ∧ iv = .int .i64 i ∧ (∀ j, j < i → p j = false) ∧ Below w.heap.size w wr) (fun iv _ => n - (intOf iv).toNat)
  case atStart => exact ⟨0, Nat.zero_le _, rfl, fun _ h => by omega, Below.refl _ _⟩
  case round =>
    obtain ⟨i, hi, rfl, hno, hb⟩ := hrel
    have HNO := Lib.hid hno
    have i0 : (0 : Int) ≤ (i : Int) := by omega
    by_cases hlt : i < n
    · have i1 : (i : Int) < (n : Int) := by omega
      obtain ⟨b, o, rfl, hbB, hcc⟩ := HC.out (by omega)
      obtain ⟨c0, c1⟩ := hcc i hlt
      have e0 := (hb.cell (p := ⟨b, o + i * 2, none⟩) (by show b < w.heap.size; omega)).trans c0
      have e1 := (hb.cell (p := ⟨b, o + i * 2 + 1, none⟩) (by show b < w.heap.size; omega)).trans c1
      have hcall := HP.out wr i hb hlt
      have HCALL := Lib.hid hcall
      clear hcall hcc hno hb c0 c1
      cases hq : p i with
      | true =>
        have hcall := HCALL.out
        rw [hq] at hcall
        clear HCALL
        have HCALL := Lib.hid hcall
        have HQ := Lib.hid (anyN_true hlt hq)
        clear hcall hq
        go_wp2_with (go_at_fn g; refine (HCALL.out).mono ?_; rintro e w5 ⟨rfl, hb5⟩; have HB5 := Lib.hid hb5; clear hb5)
        go_ret
        exact ⟨_, rfl, by rw [HQ.out]; exact (decide_eq_true (by omega)).symm, HB5.out⟩
      | false =>
        have hcall := HCALL.out
        rw [hq] at hcall
        clear HCALL
        have HCALL := Lib.hid hcall
        have HQ := Lib.hid hq
        clear hcall hq
        go_wp2_with (go_at_fn g; refine (HCALL.out).mono ?_; rintro e w5 ⟨rfl, hb5⟩; have HB5 := Lib.hid hb5; clear hb5)
        go_roundw
        case rel =>
          refine ⟨i + 1, by omega, by go_num, fun j hj => ?_, HB5.out⟩
          by_cases he : j = i
          · subst he
            exact HQ.out
          · exact HNO.out j (by omega)
        case measure => simp [intOf] <;> omega
    · have i1 : ¬ (i : Int) < (n : Int) := by omega
      have HB5 := Lib.hid hb
      have hin : i = n := by omega
      have HQ := Lib.hid (anyN_false (n := n) (fun j hj => hno j (by omega)))
      clear hb hno hin
      go_wp2
      go_ret
      exact ⟨_, rfl, by rw [HQ.out]; rfl, HB5.out⟩
set_option maxRecDepth 100000 in
theorem containsFuncSpn_any (g : Nat) (lb : Array Value) (eg : ∀ args W, (callFunc g args).run Tryz.prog W = .ok (.enter g args) W) (ao : Option Addr) (n cap B : Nat) (x0 x1 : Nat → Value) (p : Nat → Bool) (w : World) (hn : n ≤ 1000000) (hB : B ≤ w.heap.size)
    (hc : 0 < n → ∃ b o, ao = some ⟨b, o, none⟩ ∧ b < B ∧ ∀ i, i < n → w.cell? ⟨b, o + i * 2, none⟩ = some (x0 i) ∧ w.cell? ⟨b, o + i * 2 + 1, none⟩ = some (x1 i)) (hp : Asks g lb n (fun i => .agg #[x0 i, x1 i]) p w) :
    Calls Tryz.prog 93 #[.slice ao n cap, .func (.func g) #[] lb] w fun e w' => e = .returned (.bool (anyN n p)) ∧ Below w.heap.size w w' := by
  have hi := indexFuncSpn_any g lb eg ao n cap B x0 x1 p w hn hB hc hp
  have HI := Lib.hid hi
  clear hi hc hp
  go_enter Tryz.func93, Tryz.ntmps93
  go_wp2_with (go_at_call 107; refine (HI.out).mono ?_; rintro e w5 ⟨z, rfl, hz, hb5⟩; have HZ := Lib.hid hz; have HB5 := Lib.hid hb5; clear hz hb5)
  go_ret
  exact ⟨ret_bool (by rw [HZ.out]), HB5.out⟩
end Go.Proofs.YtbkcmgjmhglghaaGreatDoor
