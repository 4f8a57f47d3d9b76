/-
  decide.keep.
-/
import Derived.Test.YtbkcmgjmhglghaaGreatDoorWh0
namespace Go.Proofs.YtbkcmgjmhglghaaGreatDoor
open Go.RowKit

abbrev Pt := Nat × ByteArray
def partC (p : Pt) : List Value := [.int .u64 p.1, .string p.2]
theorem partC_len (p : Pt) : (partC p).length = 2 := rfl
theorem Tryz.infoPart : (Tryz.prog.info? 133).map (fun i => (i.zero, i.size, i.bytes)) = some (some (.agg #[.int .u64 0, .string ⟨#[]⟩]), 2, 24) := by kernel_rfl
theorem part_cells {W : World} {g : Nat} {a : Int} {s : ByteArray} (h : W.heap[g]? = some (.cells #[.int .u64 a, .string s] 133 (0, 0))) : W.cell? ⟨g, 0, none⟩ = some (.int .u64 a) ∧ W.cell? ⟨g, 1, none⟩ = some (.string s) := by
  rw [Lib.cell_of_heap h, Lib.cell_of_heap h]
  exact ⟨rfl, rfl⟩
/-- Parts in a row of one's own. -/
def PartsR (W : World) (base : Nat) (v : Value) (ps : List Pt) : Prop := W.ownsRow base 133 2 v ps.length (ps.flatMap partC)
theorem PartsR.at {W : World} {base : Nat} {v : Value} {ps : List Pt} (h : PartsR W base v ps) {i : Nat} {q : Pt} (hq : ps[i]? = some q) : ∃ g cap, v = .slice (some ⟨g, 0, none⟩) ps.length cap ∧ base ≤ g ∧ W.cell? ⟨g, i * 2, none⟩ = some (.int .u64 q.1) ∧ W.cell? ⟨g, i * 2 + 1, none⟩ = some (.string q.2) := by
  have h' := h
  obtain ⟨hl, ⟨rfl, h0⟩ | ⟨g, cap, cur, rfl, hb, hg, _⟩⟩ := h'
  · have := (List.getElem?_eq_some_iff.1 hq).1
    omega
  · refine ⟨g, cap, rfl, hb, ?_, ?_⟩
    · have := (own_cells h (j := i * 2 + 0) (x := .int .u64 (q.1 : Int)) (by rw [flat_get partC 2 partC_len ps i 0 q hq (by omega)]; rfl)).2.1
      simpa using this
    · exact (own_cells h (j := i * 2 + 1) (x := .string q.2) (by rw [flat_get partC 2 partC_len ps i 1 q hq (by omega)]; rfl)).2.1
/-- What keep gives back. -/
def KeepP (base : Nat) (v : Value) (ps : List Pt) (p : Pt) (w : World) (e : Ending) (w' : World) : Prop :=
  ∃ v' ps', e = .returned v' ∧ PartsR w' base v' ps' ∧ (∃ ext, ps' = ps ++ ext) ∧ ps'.length ≤ ps.length + 1 ∧ (∀ q ∈ ps', q ∈ ps ∨ q = p) ∧ (∃ q ∈ ps', q.1 = p.1) ∧ w.grownBy w' v.ownBlock
set_option maxRecDepth 100000 in
set_option maxHeartbeats 1600000 in
theorem keep_any (base : Nat) (v : Value) (ps : List Pt) (p : Pt) (w : World) (ho : PartsR w base v ps) (hbase : base ≤ w.heap.size) (hps : ps.length ≤ 3000000) :
    Calls Tryz.prog 78 #[v, .agg #[.int .u64 p.1, .string p.2]] w (KeepP base v ps p w) := by
  obtain ⟨p1, p2⟩ := p
  obtain ⟨n, hn⟩ : ∃ n, n = ps.length := ⟨_, rfl⟩
  obtain ⟨j0, hj, hz0, hz1, hz2⟩ := info_parts Tryz.infoPart
  have hv : v = .slice none 0 0 ∧ n = 0 ∨ ∃ g cap, v = .slice (some ⟨g, 0, none⟩) n cap := by
    have h' := ho
    rw [hn]
    obtain ⟨hl, ⟨rfl, h0⟩ | ⟨g, cap, cur, rfl, hb, hg, _⟩⟩ := h'
    · exact .inl ⟨rfl, h0⟩
    · exact .inr ⟨g, cap, rfl⟩
  obtain ⟨ao, cap, hva⟩ : ∃ ao cap, v = .slice ao n cap := by
    rcases hv with ⟨h1, h2⟩ | ⟨g, cap, h1⟩
    · exact ⟨none, 0, by rw [h1, h2]⟩
    · exact ⟨some ⟨g, 0, none⟩, cap, h1⟩
  clear hv
  rw [← hn] at hps
  have HO := Lib.hid ho
  have HN := Lib.hid hn
  have HBASE := Lib.hid hbase
  clear ho hn hbase
  subst hva
  go_enter Tryz.func78, Tryz.ntmps78
  go_upto_region 1 with fail
  obtain ⟨w1, hw1⟩ : ∃ w1, w1 = w.alloc (.cells #[.int .u64 (p1 : Int), .string p2] 133) := ⟨_, rfl⟩
  have hpx : w1.heap[w.heap.size]? = some (.cells #[.int .u64 (p1 : Int), .string p2] 133 (0, 0)) := by rw [hw1]; exact heap_alloc_new w _
  have hb1 : Below w.heap.size w w1 := by rw [hw1]; exact (Below.refl _ _).alloc (Nat.le_refl _) _
  rw [← hw1]
  clear hw1
  have HPX := Lib.hid hpx
  have HB1 := Lib.hid hb1
  clear hpx hb1
  go_wp2
  go_loopw [9] (fun iv wr => ∃ i : Nat, i ≤ n ∧ iv = .int .i64 i ∧ Below w.heap.size w wr ∧ wr.heap[w.heap.size]? = some (.cells #[.int .u64 (p1 : Int), .string p2] 133 (0, 0))) (fun iv _ => n - (intOf iv).toNat)
  case atStart => exact ⟨0, Nat.zero_le _, rfl, HB1.out, HPX.out⟩
  case round =>
    obtain ⟨i, hi, rfl, hb, hp⟩ := hrel
    have HBW := Lib.hid hb
    obtain ⟨c0, c1⟩ := part_cells hp
    have i0 : (0 : Int) ≤ (i : Int) := by omega
    by_cases hlt : i < n
    · have i1 : (i : Int) < (n : Int) := by omega
      obtain ⟨q, hq⟩ : ∃ q, ps[i]? = some q := ⟨_, List.getElem?_eq_getElem (by have := HN.out; omega)⟩
      obtain ⟨g, cap', hve, hbg, d0, d1⟩ := HO.out.at hq
      injection hve with hve1 hve2 hve3
      subst hve1
      have glt := World.block_lt_of_cell? w _ d0
      have e0 := (hb.cell (p := ⟨g, i * 2, none⟩) glt).trans d0
      have e1 := (hb.cell (p := ⟨g, i * 2 + 1, none⟩) glt).trans d1
      have hmem := List.mem_of_getElem? hq
      obtain ⟨q1, q2⟩ := q
      simp only at e0 e1
      have HP := Lib.hid hp
      have HMEM := Lib.hid hmem
      have hbN : Below w.heap.size w (wr.alloc (.cells #[.int .u64 (q1 : Int), .string q2] 133)) := hb.alloc hb.size _
      have hpN : (wr.alloc (.cells #[.int .u64 (q1 : Int), .string q2] 133)).heap[w.heap.size]? = some (.cells #[.int .u64 (p1 : Int), .string p2] 133 (0, 0)) := ((Below.refl _ wr).alloc (Nat.le_refl _) _).block _ (Array.getElem?_eq_some_iff.1 hp).1 |>.trans hp
      have HBN := Lib.hid hbN
      have HPN := Lib.hid hpN
      obtain ⟨f0, f1⟩ := part_cells hpN
      clear hq d0 d1 hve2 hve3 hb hp hmem hbN hpN
      by_cases hqe : q1 = p1
      · subst hqe
        by_cases hle : q2.size = p2.size
        · have l1 : ((q2.size : Int) == (p2.size : Int)) = true := by simp [hle]
          go_wp2
          go_ret
          refine ⟨_, ps, rfl, ?_, ⟨[], by simp⟩, Nat.le_succ _, fun q hq => .inl hq, ⟨_, HMEM.out, rfl⟩, ?_⟩
          · exact own_grow HO.out (grown_below HBN.out) (by simp [Value.ownBlock])
          · exact (grown_below HBN.out).but _
        · have l1 : ((q2.size : Int) == (p2.size : Int)) = false := by simp; omega
          go_wp2
          go_roundw
          case rel => exact ⟨i + 1, by omega, by go_num, HBN.out, HPN.out⟩
          case measure => simp [intOf] <;> omega
      · have l1 : ((q1 : Int) == (p1 : Int)) = false := by simp; omega
        go_wp2
        go_roundw
        case rel => exact ⟨i + 1, by omega, by go_num, HBN.out, HPN.out⟩
        case measure => simp [intOf] <;> omega
    · have i1 : ¬ (i : Int) < (n : Int) := by omega
      have hownW : wr.ownsRow base 133 2 (.slice ao n cap) n (ps.flatMap partC) := by
        have := own_grow HO.out (grown_below hb) (by cases (Value.slice ao n cap).ownBlock <;> simp)
        rw [← HN.out] at this
        exact this
      have hownA := hownW.alloc (.cells #[.int .u64 (p1 : Int), .string p2] 133)
      have hbA : Below w.heap.size w (wr.alloc (.cells #[.int .u64 (p1 : Int), .string p2] 133)) := hb.alloc hb.size _
      have HBA := Lib.hid hbA
      have HSZ := Lib.hid (Nat.le_trans HBASE.out hbA.size)
      clear hb hp hbA hownW
      go_wp2_with (at_builtin; refine wpList_append_own _ rfl _ _ 123 rfl base 133 j0 (.agg #[.int .u64 0, .string ⟨#[]⟩]) 2 24 Tryz.underlying123 hj hz0 hz1 hz2 rfl (by decide) _ _ _ rfl hownA ⟨wr.heap.size, 0, none⟩ 1 1 (partC (p1, p2)) rfl rfl (cells_new _ _ _) (by intro u hu; simp [partC] at hu; rcases hu with rfl | rfl <;> rfl) (by unfold maxLen; omega) (by omega) HSZ.out ?_; intro v' w9 hE2 hg2 _)
      go_ret
      refine ⟨v', ps ++ [(p1, p2)], rfl, ?_, ⟨_, rfl⟩, by simp, fun q hq => by simpa using hq, ⟨(p1, p2), by simp, rfl⟩, ((grown_below HBA.out).but _).trans hg2⟩
      unfold PartsR
      rw [List.length_append, ← HN.out, List.flatMap_append]
      simpa using hE2
end Go.Proofs.YtbkcmgjmhglghaaGreatDoor
