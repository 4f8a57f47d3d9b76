/-
  condition.Valid, decide.Weight.
-/
import Derived.Test.YtbkcmgjmhglghaaGreatDoorWf2
namespace Go.Proofs.YtbkcmgjmhglghaaGreatDoor
open Go.RowKit

set_option maxRecDepth 100000 in
theorem cvalid1_any (op md : Int) (nt : Bool) (sv : Value) (sp : List Sp) (B : Nat) (w : World) (hv : IsSpans w B sv sp) (hB : B ≤ w.heap.size) (hr : relB ⟨op, md, nt, sp⟩ = true) :
    Calls Tryz.prog 64 #[.agg #[.int .i64 op, .int .i64 md, .bool nt, sv]] w fun e w' => e = .returned (.bool false) ∧ Below w.heap.size w w' := by
  have hp := fun W (hW : Below w.heap.size w W) => cproper_any op md nt sv sp B W (hv.below (hW.mono hB)) (Nat.le_trans hB hW.size) hr
  obtain ⟨ao, cap, rfl, _⟩ := hv
  have hb : Below w.heap.size w (w.alloc (.cells #[.int .i64 op, .int .i64 md, .bool nt, .slice ao sp.length cap] 51)) := (Below.refl _ _).alloc (Nat.le_refl _) _
  have HP := Lib.hid hp
  have HB := Lib.hid hb
  clear hp hb hr
  go_enter Tryz.func64, Tryz.ntmps64
  go_wp2_with (go_at_call 65; refine (HP.out _ HB.out).mono ?_; rintro e w5 ⟨rfl, hb5⟩; have HB5 := Lib.hid hb5; clear hb5)
  go_ret
  exact ⟨rfl, HB.out.trans (HB5.out.mono HB.out.size)⟩
/-- Relations in memory, as functions of their places. -/
theorem rels_fun {w : World} {B : Nat} {v : Value} {l : List Rel} (h : IsRels w B v l) : ∃ (ao : Option Addr) (cap : Nat) (svs : Nat → Value), v = .slice ao l.length cap ∧ (∀ i r, l[i]? = some r → IsSpans w B (svs i) r.sp) ∧
    (0 < l.length → ∃ b o, ao = some ⟨b, o, none⟩ ∧ b < B ∧ ∀ i, i < l.length → w.cell? ⟨b, o + i * 4, none⟩ = some (.int .i64 (l.getD i ⟨0, 0, false, []⟩).op) ∧ w.cell? ⟨b, o + i * 4 + 1, none⟩ = some (.int .i64 (l.getD i ⟨0, 0, false, []⟩).md) ∧ w.cell? ⟨b, o + i * 4 + 2, none⟩ = some (.bool (l.getD i ⟨0, 0, false, []⟩).nt) ∧ w.cell? ⟨b, o + i * 4 + 3, none⟩ = some (svs i)) := by
  obtain ⟨ps, e, hs, ao, cap, rfl, hc⟩ := rels_rows h
  refine ⟨ao, cap, fun i => (ps.getD i (⟨0, 0, false, []⟩, .bool false)).2, rfl, fun i r hr => ?_, fun h0 => ?_⟩
  · rw [← e, List.getElem?_map] at hr
    obtain ⟨p, hp, rfl⟩ := Option.map_eq_some_iff.1 hr
    have : ps.getD i (⟨0, 0, false, []⟩, .bool false) = p := by rw [List.getD_eq_getElem?_getD, hp]; rfl
    show IsSpans w B (ps.getD i (⟨0, 0, false, []⟩, .bool false)).2 p.1.sp
    rw [this]
    exact hs p (List.mem_of_getElem? hp)
  · obtain ⟨b, o, rfl, hb, hcc⟩ := hc h0
    refine ⟨b, o, rfl, hb, fun i hi => ?_⟩
    have hil : i < ps.length := by rw [← List.length_map (f := (·.1)), e]; exact hi
    have hp : ps[i]? = some ps[i] := List.getElem?_eq_getElem hil
    have e1 : ps.getD i (⟨0, 0, false, []⟩, .bool false) = ps[i] := by rw [List.getD_eq_getElem?_getD, hp]; rfl
    have e2 : l.getD i ⟨0, 0, false, []⟩ = ps[i].1 := by
      rw [List.getD_eq_getElem?_getD, ← e, List.getElem?_map, hp]
      rfl
    have c := fun k (hk : k < 4) u (hu : (relC ps[i])[k]? = some u) => hcc (i * 4 + k) u (by rw [← hu]; exact flat_get relC 4 relC_len ps i k _ hp hk)
    dsimp only
    rw [e1, e2]
    exact ⟨c 0 (by omega) _ rfl, by rw [Nat.add_assoc]; exact c 1 (by omega) _ rfl, by rw [Nat.add_assoc]; exact c 2 (by omega) _ rfl, by rw [Nat.add_assoc]; exact c 3 (by omega) _ rfl⟩
set_option maxRecDepth 100000 in
set_option maxHeartbeats 1600000 in
theorem cvalid_any (v : Value) (c : Cnd) (B : Nat) (w : World) (hv : IsCond w B v c) (hB : B ≤ w.heap.size) (hc : condB c = true) :
    Calls Tryz.prog 41 #[v] w fun e w' => e = .returned (.bool true) ∧ Below w.heap.size w w' := by
  obtain ⟨hl0, hl6, ht, hl⟩ := condB_parts hc
  have hrel := fun r (hr : r ∈ c.flatten) => condB_rel hc hr
  obtain ⟨ao, cap, rfl, hcl⟩ := hv
  obtain ⟨n, hn⟩ : ∃ n, n = c.length := ⟨_, rfl⟩
  rw [← hn] at hcl hl6 hl0
  rw [← hn]
  have HC := Lib.hid hcl
  have HN := Lib.hid hn
  have HL := Lib.hid hl
  have HT := Lib.hid ht
  have HR := Lib.hid hrel
  have HCB := Lib.hid hB
  clear hcl hn hl hc ht hB hrel
  go_enter Tryz.func41, Tryz.ntmps41
  go_wp2
  go_loopw [3, 8] (fun nv iv wr => ∃ (i t : Nat), i ≤ n ∧ iv = .int .i64 i ∧ nv = .int .i64 t ∧ t = (c.take i).flatten.length ∧ Below w.heap.size w wr) (fun _ iv _ => n - (intOf iv).toNat)
  case atStart => exact ⟨0, 0, Nat.zero_le _, rfl, rfl, by simp, Below.refl _ _⟩
  case round =>
    obtain ⟨i, t, hi, rfl, rfl, hts, hb⟩ := hrel
    have HBW := Lib.hid hb
    have htt : t ≤ 6 := by
      have := flat_take_le c i
      have := HT.out
      omega
    have i0 : (0 : Int) ≤ (i : Int) := by omega
    by_cases hlt : i < n
    · have i1 : (i : Int) < (n : Int) := by omega
      obtain ⟨l, hx'⟩ : ∃ l, c[i]? = some l := ⟨_, List.getElem?_eq_getElem (by have := HN.out; omega)⟩
      obtain ⟨b, o, rfl, hbB, hcl⟩ := HC.out (by omega)
      obtain ⟨rv', d0, hrv⟩ := hcl i l hx'
      have e0 := (hb.cell (p := ⟨b, o + i, none⟩) (by show b < w.heap.size; have := HCB.out; omega)).trans d0
      obtain ⟨l0, l6⟩ := HL.out i l hx'
      obtain ⟨ao2, cap2, svs, rfl, hsv, hq⟩ := rels_fun hrv
      have hmem : ∀ j r, l[j]? = some r → r ∈ c.flatten := fun j r hr => List.mem_flatten.2 ⟨l, List.mem_of_getElem? hx', List.mem_of_getElem? hr⟩
      have hcf := containsFuncRel_any 64 #[] (fun _ _ => by kernel_rfl) ao2 l.length cap2 B (fun j => .int .i64 (l.getD j ⟨0, 0, false, []⟩).op) (fun j => .int .i64 (l.getD j ⟨0, 0, false, []⟩).md) (fun j => .bool (l.getD j ⟨0, 0, false, []⟩).nt) svs (fun _ => false) wr (by omega) (Nat.le_trans HCB.out hb.size)
        (fun h0 => by
          obtain ⟨b', o', e', hb', hc'⟩ := hq h0
          exact ⟨b', o', e', hb', fun j hj => by
            obtain ⟨h1, h2, h3, h4⟩ := hc' j hj
            have cc := fun k u (h : w.cell? ⟨b', k, none⟩ = some u) => (hb.cell (p := ⟨b', k, none⟩) (by show b' < w.heap.size; have := HCB.out; omega)).trans h
            exact ⟨cc _ _ h1, cc _ _ h2, cc _ _ h3, cc _ _ h4⟩⟩)
        (fun W j hW hj => by
          have hr : l[j]? = some l[j] := List.getElem?_eq_getElem hj
          have e : l.getD j ⟨0, 0, false, []⟩ = l[j] := by rw [List.getD_eq_getElem?_getD, hr]; rfl
          dsimp only
          rw [e]
          have hbW := hb.trans (hW.mono hb.size)
          exact (cvalid1_any _ _ _ _ l[j].sp B W ((hsv j _ hr).below (hbW.mono HCB.out)) (Nat.le_trans HCB.out hbW.size) (HR.out _ (hmem j _ hr))).mono fun _ _ h => ⟨h.1, hW.trans (h.2.mono hW.size)⟩)
      rw [anyN_false (fun _ _ => rfl)] at hcf
      obtain ⟨m, hm⟩ : ∃ m, m = l.length := ⟨_, rfl⟩
      have htk : (c.take (i + 1)).flatten.length = t + m := by rw [take_succ_flat hx', List.length_append, ← hts, hm]
      rw [← hm] at l0 l6 e0 hcf
      have m0 : ((m : Int) == 0) = false := by simp; omega
      have HCF := Lib.hid hcf
      have HTK := Lib.hid htk
      clear hcl d0 hx' hb hm hq hsv hrv hmem hcf hts htk
      go_wp2_with (go_at_call 47; refine (HCF.out).mono ?_; rintro e w5 ⟨rfl, hb5⟩; have HB5 := Lib.hid hb5; clear hb5)
      go_roundw
      case rel => exact ⟨i + 1, t + m, by omega, by go_num, by go_num, HTK.out.symm, HBW.out.trans (HB5.out.mono HBW.out.size)⟩
      case measure => simp [intOf] <;> omega
    · have i1 : ¬ (i : Int) < (n : Int) := by omega
      have n1 : (0 : Int) < (n : Int) := by omega
      have t1 : (t : Int) ≤ 6 := by omega
      clear hb hts
      go_wp2
      go_ret
      exact ⟨rfl, HBW.out⟩
theorem wfold_app (a b : List Rel) (n : Nat) : wfold (a ++ b) n = wfold b (wfold a n) := by simp [wfold, List.foldl_append]
theorem wfold_le (l : List Rel) (n : Nat) (h : n ≤ 1000000) : wfold l n ≤ 1000000 := by
  induction l generalizing n with
  | nil => exact h
  | cons r l ih => exact ih _ (Nat.min_le_left _ _)
theorem trsz_size {r : Rel} (h : relB r = true) : (r.md = 0 → (trsz r : Int) = great r + 2) ∧ (r.md ≠ 0 → (trsz r : Int) = r.md) := by
  have h1 := great_nonneg r
  unfold trsz
  refine ⟨fun h0 => ?_, fun h0 => ?_⟩
  · rw [if_pos h0]
    omega
  · rw [if_neg h0]
    rcases relB_md h with h2 | h2
    · exact absurd h2 h0
    · have := modsL_le h2
      omega
theorem wrap_id {x : Int} (h0 : 0 ≤ x) (h1 : x < 9223372036854775808) : wrap64 x = x := by
  unfold wrap64
  omega
theorem min_sq (t z : Nat) (Z : Int) (hZ : (z : Int) = Z) (ht : t ≤ 1000000) (hz : z ≤ 102) : Value.int .i64 (min (wrap64 (t * wrap64 (Z * Z))) 1000000) = .int .i64 ((min 1000000 (t * (z * z)) : Nat) : Int) := by
  subst hZ
  have h1 : z * z ≤ 102 * 102 := Nat.mul_le_mul hz hz
  have h2 : t * (z * z) ≤ 1000000 * (102 * 102) := Nat.mul_le_mul ht h1
  have a1 : wrap64 ((z * z : Nat) : Int) = ((z * z : Nat) : Int) := wrap_id (by omega) (by omega)
  have a2 : wrap64 ((t * (z * z) : Nat) : Int) = ((t * (z * z) : Nat) : Int) := wrap_id (by omega) (by omega)
  rw [show (z : Int) * (z : Int) = ((z * z : Nat) : Int) from by simp, a1, show (t : Int) * ((z * z : Nat) : Int) = ((t * (z * z) : Nat) : Int) from by simp, a2]
  congr 1
  omega
theorem min_one (t z : Nat) (Z : Int) (hZ : (z : Int) = Z) (ht : t ≤ 1000000) (hz : z ≤ 102) : Value.int .i64 (min (wrap64 (t * Z)) 1000000) = .int .i64 ((min 1000000 (t * z) : Nat) : Int) := by
  subst hZ
  have h2 : t * z ≤ 1000000 * 102 := Nat.mul_le_mul ht hz
  rw [show (t : Int) * (z : Int) = ((t * z : Nat) : Int) from by simp, wrap_id (by omega) (by omega)]
  congr 1
  omega
set_option maxRecDepth 100000 in
set_option maxHeartbeats 1600000 in
theorem weight_any (v : Value) (c : Cnd) (B : Nat) (w : World) (hv : IsCond w B v c) (hB : B ≤ w.heap.size) (hc : condB c = true) :
    Calls Tryz.prog 25 #[v] w fun e w' => e = .returned (.tuple #[.int .i64 (wfold c.flatten 1 : Nat), .int .i64 0]) ∧ Below w.heap.size w w' := by
  obtain ⟨hl0, hl6, ht, hl⟩ := condB_parts hc
  have hrel := fun r (hr : r ∈ c.flatten) => condB_rel hc hr
  have hval := cvalid_any v c B w hv hB hc
  obtain ⟨ao, cap, rfl, hcl⟩ := hv
  obtain ⟨n, hn⟩ : ∃ n, n = c.length := ⟨_, rfl⟩
  rw [← hn] at hcl hl6 hl0 hval
  rw [← hn]
  obtain ⟨R, hR⟩ : ∃ R, R = wfold c.flatten 1 := ⟨_, rfl⟩
  rw [← hR]
  have HR2 := Lib.hid hR
  have HC := Lib.hid hcl
  have HN := Lib.hid hn
  have HL := Lib.hid hl
  have HR := Lib.hid hrel
  have HCB := Lib.hid hB
  have HVAL := Lib.hid hval
  clear hcl hn hl hc ht hB hrel hval hR
  go_enter Tryz.func25, Tryz.ntmps25
  go_wp2_with (go_at_call 41; refine (HVAL.out).mono ?_; rintro e w0 ⟨rfl, hb0⟩; have HB0 := Lib.hid hb0; clear hb0)
  go_loopw [4, 15] (fun nv iv wr => ∃ (i t : Nat), i ≤ n ∧ iv = .int .i64 i ∧ nv = .int .i64 t ∧ t = wfold (c.take i).flatten 1 ∧ Below w.heap.size w wr) (fun _ iv _ => n - (intOf iv).toNat)
  case atStart => exact ⟨0, 1, Nat.zero_le _, rfl, rfl, by simp [wfold], HB0.out⟩
  case round =>
    obtain ⟨i, t, hi, rfl, rfl, hts, hb⟩ := hrel
    have HBW := Lib.hid hb
    have htt : t ≤ 1000000 := by rw [hts]; exact wfold_le _ _ (by omega)
    have i0 : (0 : Int) ≤ (i : Int) := by omega
    by_cases hlt : i < n
    · have i1 : (i : Int) < (n : Int) := by omega
      obtain ⟨l, hx'⟩ : ∃ l, c[i]? = some l := ⟨_, List.getElem?_eq_getElem (by have := HN.out; omega)⟩
      obtain ⟨b, o, rfl, hbB, hcl⟩ := HC.out (by omega)
      obtain ⟨rv', d0, hrv⟩ := hcl i l hx'
      have e0 := (hb.cell (p := ⟨b, o + i, none⟩) (by show b < w.heap.size; have := HCB.out; omega)).trans d0
      obtain ⟨l0, l6⟩ := HL.out i l hx'
      obtain ⟨ao2, cap2, rfl, hq⟩ := hrv
      have hmem : ∀ r ∈ l, r ∈ c.flatten := fun r hr => List.mem_flatten.2 ⟨l, List.mem_of_getElem? hx', hr⟩
      have htk : wfold (c.take (i + 1)).flatten 1 = wfold l t := by rw [take_succ_flat hx', wfold_app, ← hts]
      obtain ⟨m, hm⟩ : ∃ m, m = l.length := ⟨_, rfl⟩
      rw [← hm] at l0 l6 e0 hq
      have HQ := Lib.hid hq
      have HM := Lib.hid hm
      have HMEM := Lib.hid hmem
      have HTK := Lib.hid htk
      clear hcl d0 hx' hb hm hq hmem hts htk
      go_wp2
      go_loopw [4, 21] (fun nv kv wr => ∃ (k t' : Nat), k ≤ m ∧ kv = .int .i64 k ∧ nv = .int .i64 t' ∧ t' ≤ 1000000 ∧ wfold l t = wfold (l.drop k) t' ∧ Below w.heap.size w wr) (fun _ kv _ => m - (intOf kv).toNat)
      case atStart => exact ⟨0, t, Nat.zero_le _, rfl, rfl, htt, by rw [List.drop_zero], HBW.out⟩
      case round =>
        obtain ⟨k, t', hk, rfl, rfl, ht', hwf, hb2⟩ := hrel
        have HB2 := Lib.hid hb2
        have k0 : (0 : Int) ≤ (k : Int) := by omega
        by_cases hkt : k < m
        · have k1 : (k : Int) < (m : Int) := by omega
          have hkl : k < l.length := by have := HM.out; omega
          obtain ⟨r, hr⟩ : ∃ r, l[k]? = some r := ⟨_, List.getElem?_eq_getElem hkl⟩
          have hrB := HR.out r (HMEM.out r (List.mem_of_getElem? hr))
          have hdr : l.drop k = r :: l.drop (k + 1) := by
            obtain ⟨_, e⟩ := List.getElem?_eq_some_iff.1 hr
            rw [List.drop_eq_getElem_cons hkl, e]
          rw [hdr] at hwf
          have hwf2 : wfold l t = wfold (l.drop (k + 1)) (min 1000000 (t' * wt r)) := hwf
          obtain ⟨b2, o2, rfl, hb2B, hqc⟩ := HQ.out (by omega)
          obtain ⟨q0, q1, q2, sv, q3, q4⟩ := hqc k r hr
          have cc := fun k u (h : w.cell? ⟨b2, k, none⟩ = some u) => (hb2.cell (p := ⟨b2, k, none⟩) (by show b2 < w.heap.size; have := HCB.out; omega)).trans h
          have a0 := cc _ _ q0
          have a1 := cc _ _ q1
          have a2 := cc _ _ q2
          have a3 := cc _ _ q3
          obtain ⟨s1, s2⟩ := trsz_size hrB
          have hw1 := wt_ge hrB
          have hw2 := trsz_ge hrB
          have hgr0 := great_nonneg r
          have hgr1 := great_le hrB
          have h4 := (relB_sp hrB).2
          obtain ⟨op, md, nt, sp⟩ := r
          have hgre := fun W (hW : Below w.heap.size w W) => greatest_any op md nt sv sp B W (q4.below (hW.mono HCB.out)) (Nat.le_trans HCB.out hW.size) h4
          obtain ⟨aS, cS, rfl, _⟩ := q4
          have hballoc : Below w.heap.size w (wr.alloc (.cells #[.int .i64 op, .int .i64 md, .bool nt, .slice aS sp.length cS] 51)) := hb2.alloc hb2.size _
          have hrel2 : (wr.alloc (.cells #[.int .i64 op, .int .i64 md, .bool nt, .slice aS sp.length cS] 51)).heap[wr.heap.size]? = some (.cells #[.int .i64 op, .int .i64 md, .bool nt, .slice aS sp.length cS] 51 (0, 0)) := heap_alloc_new wr _
          obtain ⟨g, hg⟩ : ∃ g, g = great ⟨op, md, nt, sp⟩ := ⟨_, rfl⟩
          obtain ⟨z, hz⟩ : ∃ z, z = trsz ⟨op, md, nt, sp⟩ := ⟨_, rfl⟩
          obtain ⟨y, hy⟩ : ∃ y, y = wt ⟨op, md, nt, sp⟩ := ⟨_, rfl⟩
          have hyz : y = if op = 6 then z * z else z := by rw [hy, hz]; rfl
          rw [← hg] at s1 hgr0 hgr1 hgre
          rw [← hz] at s1 s2 hw1 hw2
          rw [← hy] at hw1 hwf2
          simp only at s1 s2 a0 a1 a2 a3
          have HWF := Lib.hid hwf2
          have HGRE := Lib.hid hgre
          have HBA := Lib.hid hballoc
          have HREL := Lib.hid hrel2
          have HYZ := Lib.hid hyz
          have hzz : z * z ≤ 102 * 102 := Nat.mul_le_mul hw2.2 hw2.2
          have hzt : t' * z ≤ 1000000 * 102 := Nat.mul_le_mul ht' hw2.2
          have hyt : t' * y ≤ 1000000 * 10404 := Nat.mul_le_mul ht' hw1.2
          clear hwf hwf2 hdr hr hrB hqc q0 q1 q2 q3 cc hgre hballoc hrel2 hg hz hy hyz h4 hb2 hkl
          by_cases o6 : op = 6
          · subst o6
            by_cases m0 : md = 0
            · subst m0
              have z1 : (z : Int) = g + 2 := s1 rfl
              have hy : y = z * z := by rw [HYZ.out]; rfl
              go_wp2_with (go_at_call 55; refine (HGRE.out _ HBA.out).mono ?_; rintro e w5 ⟨rfl, hb5⟩
                           have h5 := (hb5.block wr.heap.size (by simp)).trans HREL.out
                           obtain ⟨y0, y1, y2, y3⟩ := rel_cells h5
                           have HB5 := Lib.hid (HBA.out.trans (hb5.mono HBA.out.size))
                           clear hb5 h5)
              all_goals
                go_roundw
                case rel => exact ⟨k + 1, min 1000000 (t' * y), by omega, by go_num, by rw [hy]; exact min_sq t' z _ z1 ht' hw2.2, Nat.min_le_left _ _, HWF.out, HB5.out⟩
                case measure => simp [intOf] <;> omega
            · have z1 : (z : Int) = md := s2 m0
              have m0b : (md == 0) = false := by simp [m0]
              have hy : y = z * z := by rw [HYZ.out]; rfl
              go_wp2
              all_goals
                go_roundw
                case rel => exact ⟨k + 1, min 1000000 (t' * y), by omega, by go_num, by rw [hy]; exact min_sq t' z _ z1 ht' hw2.2, Nat.min_le_left _ _, HWF.out, HBA.out⟩
                case measure => simp [intOf] <;> omega
          · by_cases m0 : md = 0
            · subst m0
              have z1 : (z : Int) = g + 2 := s1 rfl
              have hy : y = z := by rw [HYZ.out]; rw [if_neg o6]
              have o6b : (op == 6) = false := by simp [o6]
              go_wp2_with (go_at_call 55; refine (HGRE.out _ HBA.out).mono ?_; rintro e w5 ⟨rfl, hb5⟩
                           have h5 := (hb5.block wr.heap.size (by simp)).trans HREL.out
                           obtain ⟨y0, y1, y2, y3⟩ := rel_cells h5
                           have HB5 := Lib.hid (HBA.out.trans (hb5.mono HBA.out.size))
                           clear hb5 h5)
              all_goals
                go_roundw
                case rel => exact ⟨k + 1, min 1000000 (t' * y), by omega, by go_num, by rw [hy]; exact min_one t' z _ z1 ht' hw2.2, Nat.min_le_left _ _, HWF.out, HB5.out⟩
                case measure => simp [intOf] <;> omega
            · have z1 : (z : Int) = md := s2 m0
              have m0b : (md == 0) = false := by simp [m0]
              have hy : y = z := by rw [HYZ.out]; rw [if_neg o6]
              have o6b : (op == 6) = false := by simp [o6]
              go_wp2
              all_goals
                go_roundw
                case rel => exact ⟨k + 1, min 1000000 (t' * y), by omega, by go_num, by rw [hy]; exact min_one t' z _ z1 ht' hw2.2, Nat.min_le_left _ _, HWF.out, HBA.out⟩
                case measure => simp [intOf] <;> omega
        · have k1 : ¬ (k : Int) < (m : Int) := by omega
          have hd : l.drop k = [] := List.drop_eq_nil_of_le (by have := HM.out; omega)
          rw [hd] at hwf
          have HWF := Lib.hid hwf
          clear hd hwf hb2
          go_wp2
          go_roundw
          case rel => exact ⟨i + 1, t', by omega, by go_num, rfl, by rw [HTK.out, HWF.out]; rfl, HB2.out⟩
          case measure => simp [intOf] <;> omega
    · have i1 : ¬ (i : Int) < (n : Int) := by omega
      have hd : c.take i = c := List.take_of_length_le (by have := HN.out; omega)
      rw [hd] at hts
      have HTS := Lib.hid hts
      clear hd hts hb
      go_wp2
      go_ret2
      have e : R = t := HR2.out.trans HTS.out.symm
      exact ⟨by rw [e]; rfl, HBW.out⟩
end Go.Proofs.YtbkcmgjmhglghaaGreatDoor
