/-
  decide.relations, decide.holds.
-/
import Derived.Test.YtbkcmgjmhglghaaGreatDoorWb0
import Derived.Shelf.GgClosure.Gives
namespace Go.Proofs.YtbkcmgjmhglghaaGreatDoor
open Go.RowKit

theorem Tryz.infoRel : (Tryz.prog.info? 51).map (fun i => (i.zero, i.size, i.bytes)) = some (some (.agg #[.int .i64 0, .int .i64 0, .bool false, .slice none 0 0]), 4, 48) := by kernel_rfl
theorem condB_parts {c : Cnd} (h : condB c = true) : 0 < c.length ∧ c.length ≤ 6 ∧ total c ≤ 6 ∧ ∀ (i : Nat) (l : List Rel), c[i]? = some l → 0 < l.length ∧ l.length ≤ 6 := by
  simp only [condB, Bool.and_eq_true, List.all_eq_true, decide_eq_true_eq] at h
  obtain ⟨⟨h0, h1⟩, h2⟩ := h
  have key : ∀ c : Cnd, (∀ l ∈ c, 0 < l.length) → c.length ≤ total c ∧ ∀ l ∈ c, l.length ≤ total c := by
    intro c
    induction c with
    | nil => intro _; simp
    | cons l c ih =>
      intro h
      obtain ⟨a, b⟩ := ih fun l hl => h l (List.mem_cons_of_mem _ hl)
      have hl := h l List.mem_cons_self
      have e : total (l :: c) = l.length + total c := by simp [total]
      rw [e]
      refine ⟨by simp; omega, fun l' hl' => ?_⟩
      rcases List.mem_cons.1 hl' with rfl | hl'
      · omega
      · have := b l' hl'
        omega
  obtain ⟨k1, k2⟩ := key c fun l hl => (h1 l hl).1
  refine ⟨h0, by omega, h2, fun i l hl => ?_⟩
  have hm := List.mem_of_getElem? hl
  have := k2 l hm
  exact ⟨(h1 l hm).1, by omega⟩
theorem take_succ_flat {c : Cnd} {i : Nat} {l : List Rel} (h : c[i]? = some l) : (c.take (i + 1)).flatten = (c.take i).flatten ++ l := by
  rw [List.take_add_one, h]
  simp
theorem flat_take_le (c : Cnd) (i : Nat) : (c.take i).flatten.length ≤ total c := by
  have e : c.flatten = (c.take i).flatten ++ (c.drop i).flatten := by rw [← List.flatten_append, List.take_append_drop]
  rw [total_flatten, e, List.length_append]
  omega
set_option maxRecDepth 100000 in
set_option maxHeartbeats 1600000 in
theorem relations_any (v : Value) (c : Cnd) (B : Nat) (w : World) (hv : IsCond w B v c) (hB : B ≤ w.heap.size) (hc : condB c = true) :
    Calls Tryz.prog 26 #[v] w fun e w' => ∃ v', e = .returned v' ∧ IsRels w' w'.heap.size v' c.flatten ∧ Below w.heap.size w w' := by
  obtain ⟨_, hl6, ht, hl⟩ := condB_parts hc
  obtain ⟨ao, cap, rfl, hcl⟩ := hv
  obtain ⟨n, hn⟩ : ∃ n, n = c.length := ⟨_, rfl⟩
  rw [← hn] at hcl hl6
  rw [← hn]
  obtain ⟨j0, hj, hz0, hz1, hz2⟩ := info_parts Tryz.infoRel
  have HC := Lib.hid hcl
  have HN := Lib.hid hn
  have HL := Lib.hid hl
  have HT := Lib.hid ht
  have HCB := Lib.hid hB
  clear hcl hn hl hc ht hB
  go_enter Tryz.func26, Tryz.ntmps26
  go_wp2
  go_loopw [3, 8] (fun rv iv wr => ∃ (i : Nat) (ps : List RelV), i ≤ n ∧ iv = .int .i64 i ∧ ps.map (·.1) = (c.take i).flatten ∧ SpansAt w B ps ∧ wr.ownsRow w.heap.size 51 4 rv ps.length (relsC ps) ∧ Below w.heap.size w wr) (fun _ iv _ => n - (intOf iv).toNat)
  case atStart => exact ⟨0, [], Nat.zero_le _, rfl, by simp, fun _ h => by simp at h, World.ownsRow_nil _ _ _ _, Below.refl _ _⟩
  case round =>
    obtain ⟨i, ps, hi, rfl, hps, hsp, hown, hb⟩ := hrel
    have hpl : ps.length ≤ 6 := by
      have := flat_take_le c i
      rw [← hps, List.length_map] at this
      have := HT.out
      omega
    have HPS := Lib.hid hps
    have HSP := Lib.hid hsp
    have HO := Lib.hid hown
    have HBW := Lib.hid hb
    have i0 : (0 : Int) ≤ (i : Int) := by omega
    by_cases hlt : i < n
    · have i1 : (i : Int) < (n : Int) := by omega
      have hil : i < c.length := by have := HN.out; omega
      obtain ⟨l, hx'⟩ : ∃ l, c[i]? = some l := ⟨_, List.getElem?_eq_getElem hil⟩
      obtain ⟨b, o, rfl, hbB, hcl⟩ := HC.out (by omega)
      obtain ⟨rv', d0, hrv⟩ := hcl i l hx'
      have e0 := (hb.cell (p := ⟨b, o + i, none⟩) (by show b < w.heap.size; have := HCB.out; omega)).trans d0
      obtain ⟨l0, l6⟩ := HL.out i l hx'
      obtain ⟨qs, hq1, hq2, ao2, cap2, rfl, hq3⟩ := rels_rows hrv
      obtain ⟨b2, o2, rfl, hb2, hq4⟩ := hq3 l0
      obtain ⟨m, hm⟩ : ∃ m, m = l.length := ⟨_, rfl⟩
      rw [← hm] at l0 l6 e0
      have hml : m = qs.length := by rw [hm, ← hq1, List.length_map]
      have hqc : ∀ j u, (relsC qs)[j]? = some u → wr.cell? ((⟨b2, o2, none⟩ : Addr).add j) = some u := fun j u hu => by
        rw [addr_add]
        exact (HBW.out.cell (p := ⟨b2, o2 + j, none⟩) (by show b2 < w.heap.size; have := HCB.out; omega)).trans (hq4 j u hu)
      have h1 : ∀ u ∈ relsC qs, u.oneCell' = true := fun u hu => by
        obtain ⟨p, hp, hu⟩ := List.mem_flatMap.1 hu
        simp [relC] at hu
        rcases hu with rfl | rfl | rfl | rfl
        · rfl
        · rfl
        · rfl
        · exact (hq2 p hp).slice
      have hql : (relsC qs).length = m * 4 := by unfold relsC; rw [flat_len relC 4 relC_len, hml]
      have HX := Lib.hid hx'
      have HQ1 := Lib.hid hq1
      have HQ2 := Lib.hid hq2
      have HML := Lib.hid hml
      have HSZ := Lib.hid HBW.out.size
      clear hcl d0 hx' hb hrv hq1 hq2 hq3 hq4 hml hm hps hsp
      go_wp2_with (at_builtin; refine wpList_append_own _ rfl _ _ 52 rfl w.heap.size 51 j0 (.agg #[.int .i64 0, .int .i64 0, .bool false, .slice none 0 0]) 4 48 Tryz.underlying52 hj hz0 hz1 hz2 rfl (by decide) _ _ _ rfl hown ⟨b2, o2, none⟩ m cap2 (relsC qs) rfl hql hqc h1 (by unfold maxLen; omega) (by omega) HSZ.out ?_; intro v' w9 hE2 hg2 _)
      go_roundw
      case rel =>
        refine ⟨i + 1, ps ++ qs, by omega, by go_num, ?_, ?_, ?_, ?_⟩
        · rw [List.map_append, HPS.out, HQ1.out, take_succ_flat HX.out]
        · intro p hp
          rcases List.mem_append.1 hp with hp | hp
          · exact HSP.out p hp
          · exact HQ2.out p hp
        · rw [List.length_append, ← HML.out, relsC_app]
          exact hE2
        · exact HBW.out.trans (grown_belowR hg2 HO.out HSZ.out)
      case measure => simp [intOf] <;> omega
    · have i1 : ¬ (i : Int) < (n : Int) := by omega
      have hd : c.take i = c := List.take_of_length_le (by have := HN.out; omega)
      rw [hd] at hps
      have HPS2 := Lib.hid hps
      clear hd hb hps hsp
      go_wp2
      go_ret
      refine ⟨_, rfl, ?_, HBW.out⟩
      rw [← HPS2.out]
      exact (own_rels HO.out (fun p hp => (HSP.out p hp).below (HBW.out.mono HCB.out)) (Nat.le_trans HCB.out HBW.out.size)).1
end Go.Proofs.YtbkcmgjmhglghaaGreatDoor
