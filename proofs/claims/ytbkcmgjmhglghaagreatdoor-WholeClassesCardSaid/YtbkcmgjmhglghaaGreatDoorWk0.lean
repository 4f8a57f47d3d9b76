/-
  The maps' keys: readings, and keys of classes.
-/
import Derived.Test.YtbkcmgjmhglghaaGreatDoorWb4
import Derived.Maps.OwnSet
import Derived.Maps.OwnOps
import Derived.DeepKeys4
namespace Go.Proofs.YtbkcmgjmhglghaaGreatDoor
open Go.RowKit

theorem Tryz.laidOut : laidOutB Tryz.prog = true := by kernel_rfl
theorem Tryz.rowRd : (73 : TypeId) < Tryz.prog.types.size := of_decide_eq_true (by kernel_rfl)
theorem Tryz.rowKey : (106 : TypeId) < Tryz.prog.types.size := of_decide_eq_true (by kernel_rfl)
theorem Tryz.wideRd : (match Tryz.prog.underlying 73 with | some (.array _ _) | some (.struct _) => true | _ => false) = true := by rw [Tryz.underlying73]
theorem Tryz.wideKey : (match Tryz.prog.underlying 106 with | some (.array _ _) | some (.struct _) => true | _ => false) = true := by rw [Tryz.underlying106]
set_option maxRecDepth 100000 in
theorem Tryz.keyedRd : Maps.Keyed Tryz.prog 73 := Maps.Keyed.of_law (deep_law_laid Tryz.laidOut (m := 5) (by omega) Tryz.rowRd (by kernel_rfl) Tryz.wideRd)
set_option maxRecDepth 100000 in
theorem Tryz.keyedKey : Maps.Keyed Tryz.prog 106 := Maps.Keyed.of_law (deep_law_laid Tryz.laidOut (m := 5) (by omega) Tryz.rowKey (by kernel_rfl) Tryz.wideKey)
theorem Tryz.keyedInt : Maps.Keyed Tryz.prog 3 := Maps.int_keyed Tryz.underlying3
theorem Tryz.keyedStr : Maps.Keyed Tryz.prog 9 := Maps.string_keyed Tryz.underlying9
theorem Tryz.fuelT : ∃ n, Tryz.prog.types.size + 1 = n + 6 := ⟨Tryz.prog.types.size + 1 - 6, by have : 6 ≤ Tryz.prog.types.size + 1 := of_decide_eq_true (by kernel_rfl); omega⟩
def SmallI (a : Int) : Prop := -9223372036854775808 ≤ a ∧ a < 9223372036854775808
theorem wf_small {a : Int} (h : SmallI a) : (Lit.int .i64 a).wf = true := by
  obtain ⟨h1, h2⟩ := h
  show (decide (IntKind.i64.min ≤ a) && decide (a ≤ IntKind.i64.max)) = true
  rw [show IntKind.i64.min = -9223372036854775808 from by decide, show IntKind.i64.max = 9223372036854775807 from by decide]
  simp
  omega
theorem lits_int {a : Int} (h : SmallI a) (d : Nat) : Tryz.prog.keyLits (d + 1) 3 [.int .i64 a] = some [.int .i64 a] := by
  unfold Program.keyLits
  rw [Tryz.underlying3]
  simp [wf_small h]
theorem Tryz.cellsInt : Tryz.prog.cellsOf 3 = 1 := by kernel_rfl
theorem Tryz.cellsTr : Tryz.prog.cellsOf 70 = 2 := by kernel_rfl
theorem Tryz.cellsTrs : Tryz.prog.cellsOf 71 = 12 := by kernel_rfl
theorem Tryz.cellsRd : Tryz.prog.cellsOf 73 = 13 := by kernel_rfl
theorem Tryz.cellsRow : Tryz.prog.cellsOf 102 = 11 := by kernel_rfl
theorem Tryz.cellsKey : Tryz.prog.cellsOf 106 = 12 := by kernel_rfl
theorem Tryz.keyTypeRd : Tryz.prog.keyType 73 = true := by kernel_rfl
theorem Tryz.keyTypeKey : Tryz.prog.keyType 106 = true := by kernel_rfl
theorem lits_tr {a b : Int} (ha : SmallI a) (hb : SmallI b) (d : Nat) : Tryz.prog.keyLits (d + 2) 70 [.int .i64 a, .int .i64 b] = some [.int .i64 a, .int .i64 b] := by
  unfold Program.keyLits
  rw [Tryz.underlying70]
  simp [Tryz.cellsTr, Tryz.cellsInt, lits_int ha, lits_int hb]
theorem lits_trs {a0 b0 a1 b1 a2 b2 a3 b3 a4 b4 a5 b5 : Int} (h : SmallI a0 ∧ SmallI b0 ∧ SmallI a1 ∧ SmallI b1 ∧ SmallI a2 ∧ SmallI b2 ∧ SmallI a3 ∧ SmallI b3 ∧ SmallI a4 ∧ SmallI b4 ∧ SmallI a5 ∧ SmallI b5) (d : Nat) :
    ∃ L, Tryz.prog.keyLits (d + 3) 71 [.int .i64 a0, .int .i64 b0, .int .i64 a1, .int .i64 b1, .int .i64 a2, .int .i64 b2, .int .i64 a3, .int .i64 b3, .int .i64 a4, .int .i64 b4, .int .i64 a5, .int .i64 b5] = some L := by
  obtain ⟨h0, h1, h2, h3, h4, h5, h6, h7, h8, h9, h10, h11⟩ := h
  unfold Program.keyLits
  rw [Tryz.underlying71]
  simp [Tryz.cellsTrs, Tryz.cellsTr, lits_tr h0 h1, lits_tr h2 h3, lits_tr h4 h5, lits_tr h6 h7, lits_tr h8 h9, lits_tr h10 h11, List.range, List.range.loop]
theorem small101 {a : Int} (h : 0 ≤ a ∧ a ≤ 101) : SmallI a := ⟨by omega, by omega⟩
theorem key_rd {s : RS} (h : RdOK s) : ∃ kl, keyOf Tryz.prog 73 (rdV s) = some kl := by
  obtain ⟨n, hn⟩ := Tryz.fuelT
  obtain ⟨p, ts⟩ := s
  obtain ⟨h1, h2, h3⟩ := h
  simp only at h1 h2 h3
  match ts, h2, h3 with
  | [t0, t1, t2, t3, t4, t5], _, h3 =>
    have g0 := h3 0 t0 rfl
    have g1 := h3 1 t1 rfl
    have g2 := h3 2 t2 rfl
    have g3 := h3 3 t3 rfl
    have g4 := h3 4 t4 rfl
    have g5 := h3 5 t5 rfl
    obtain ⟨L, hL⟩ := lits_trs (d := n + 2) ⟨small101 ⟨g0.1, g0.2.1⟩, small101 g0.2.2, small101 ⟨g1.1, g1.2.1⟩, small101 g1.2.2, small101 ⟨g2.1, g2.2.1⟩, small101 g2.2.2, small101 ⟨g3.1, g3.2.1⟩, small101 g3.2.2, small101 ⟨g4.1, g4.2.1⟩, small101 g4.2.2, small101 ⟨g5.1, g5.2.1⟩, small101 g5.2.2⟩
    have hp : SmallI (p : Int) := ⟨by omega, by omega⟩
    unfold keyOf rdV
    rw [Tryz.underlying73, hn]
    simp only [Tryz.keyTypeRd, Value.formed, Tryz.underlying73, Tryz.cellsRd]
    have hc : (rdC (p, [t0, t1, t2, t3, t4, t5])).toArray.size = 13 := rfl
    rw [hc]
    show ∃ kl, (if (true && (13 == 13)) = true then Option.map (fun ls => Lit.string (keyBytes ls)) (Tryz.prog.keyLits (n + 6) 73 (rdC (p, [t0, t1, t2, t3, t4, t5]))) else none) = some kl
    rw [if_pos (show (true && ((13 : Nat) == 13)) = true from rfl)]
    have : ∃ L', Tryz.prog.keyLits (n + 6) 73 (rdC (p, [t0, t1, t2, t3, t4, t5])) = some L' := by
      unfold Program.keyLits
      rw [Tryz.underlying73]
      simp [rdC, trC, Tryz.cellsRd, Tryz.cellsInt, Tryz.cellsTrs, lits_int hp, hL]
    obtain ⟨L', hL'⟩ := this
    rw [hL']
    exact ⟨_, rfl⟩
theorem lits_row (l : List Int) (hl : l.length = 11) (hs : ∀ a ∈ l, SmallI a) (d : Nat) : ∃ L, Tryz.prog.keyLits (d + 2) 102 (l.map (Value.int .i64)) = some L := by
  match l, hl, hs with
  | [a0, a1, a2, a3, a4, a5, a6, a7, a8, a9, a10], _, hs =>
    unfold Program.keyLits
    rw [Tryz.underlying102]
    have h := fun a ha => lits_int (hs a ha) d
    simp [Tryz.cellsRow, Tryz.cellsInt, h, List.range, List.range.loop]
theorem key_key (c : Int) (l : List Int) (hl : l.length = 11) (hc : SmallI c) (hs : ∀ a ∈ l, SmallI a) : ∃ kl, keyOf Tryz.prog 106 (.agg (.int .i64 c :: l.map (Value.int .i64)).toArray) = some kl := by
  obtain ⟨n, hn⟩ := Tryz.fuelT
  obtain ⟨L, hL⟩ := lits_row l hl hs (n + 3)
  unfold keyOf
  rw [Tryz.underlying106, hn]
  simp only [Tryz.keyTypeKey, Value.formed, Tryz.underlying106, Tryz.cellsKey]
  have hz : (Value.int .i64 c :: l.map (Value.int .i64)).toArray.size = 12 := by simp [hl]
  rw [hz]
  show ∃ kl, (if (true && (12 == 12)) = true then Option.map (fun ls => Lit.string (keyBytes ls)) (Tryz.prog.keyLits (n + 6) 106 (.int .i64 c :: l.map (Value.int .i64))) else none) = some kl
  rw [if_pos (show (true && ((12 : Nat) == 12)) = true from rfl)]
  have : ∃ L', Tryz.prog.keyLits (n + 6) 106 (.int .i64 c :: l.map (Value.int .i64)) = some L' := by
    unfold Program.keyLits
    rw [Tryz.underlying106]
    have ht : (l.map (Value.int .i64)).take 11 = l.map (Value.int .i64) := List.take_of_length_le (by simp [hl])
    simp [Tryz.cellsKey, Tryz.cellsInt, Tryz.cellsRow, lits_int hc, hl, hL, ht]
  obtain ⟨L', hL'⟩ := this
  rw [hL']
  exact ⟨_, rfl⟩
theorem key_int {a : Int} (h : SmallI a) : ∃ kl, keyOf Tryz.prog 3 (.int .i64 a) = some kl := ⟨_, Maps.keyOf_int_mk Tryz.underlying3 (wf_small h)⟩
end Go.Proofs.YtbkcmgjmhglghaaGreatDoor
