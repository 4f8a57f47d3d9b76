/-
  calqueref25.mark: the element at a place. (Printed by gen_Tk8.py.)
-/
import Derived.Test.YtpjafemkdoeflaaTk7
namespace Go.Proofs.Ytpjafemkdoeflaa
open Go.RowKit

def markO (c : UInt8) (r : By) : Option (Nat × By × Nat) := if c = 60 then elemT r else none
theorem ne_num {c d : UInt8} {n : Nat} (hn : d.toNat = n) (h : c ≠ d) : ((c.toNat : Int) == (n : Int)) = false := by
  simp
  intro e
  exact h (UInt8.toNat_inj.1 (by omega))
theorem head_get {l : By} {m : Nat} (h : m < (ba l).size) : (l.drop m).head? = some ((ba l)[m]'h) := by
  have e := drop_byte (s := ba l) h
  rw [ba_list] at e
  rw [e]
  rfl
theorem head_end {l : By} {m : Nat} (h : l.length ≤ m) : (l.drop m).head? = none := by
  rw [List.drop_eq_nil_of_le h]
  rfl
theorem elemT_slash {r : By} (h : r.head? = some 47) : elemT r = if nameB (r.tail.takeWhile inB) = true ∧ (r.tail.drop (r.tail.takeWhile inB).length).head? = some 62 then some (6, r.tail.takeWhile inB, (r.tail.takeWhile inB).length + 3) else none := by
  unfold elemT
  rw [if_pos h]
theorem elemT_else {r : By} (h : ¬ r.head? = some 47) : elemT r = if nameB (r.takeWhile inB) = true then
    (if (r.drop (r.takeWhile inB).length).head? = some 62 then some (5, r.takeWhile inB, (r.takeWhile inB).length + 2)
     else if (r.drop (r.takeWhile inB).length).head? = some 47 ∧ (r.drop ((r.takeWhile inB).length + 1)).head? = some 62 then some (7, r.takeWhile inB, (r.takeWhile inB).length + 3) else none)
  else none := by
  unfold elemT
  rw [if_neg h]
theorem tok_eq' (k : Nat) {t : By} {a z : Nat} {s : ByteArray} {b : Int} {V : Value} (hV : V = tokV (tokO a (some (k, t, z)))) (hs : s = ba t) (hb : b = ((a + z : Nat) : Int)) : Ending.returned (.agg #[.int .i64 k, .string s, .int .i64 a, .int .i64 b]) = .returned V := by
  subst hs hb
  rw [hV]
  rfl
def MarkP (p : Nat) (c : UInt8) (r : By) (w : World) (e : Ending) (w' : World) : Prop := TokP (tokO p (markO c r)) w e w'

set_option maxRecDepth 100000 in
set_option maxHeartbeats 4000000 in
theorem mark_slash (l : By) (p : Nat) (c : UInt8) (r : By) (hd : l.drop p = c :: r) (hl : l.length ≤ 100000) (hh : r.head? = some 47) (w : World) : Calls Try.prog 35 #[.string (ba l), .int .i64 p] w (MarkP p c r w) := by
  unfold MarkP TokP
  obtain ⟨hp, hdr, hc⟩ := drop_at hd
  have hsz : (ba l).size = l.length := rfl
  have hps : p < (ba l).size := hp
  have hc := hc hps
  have hx : ((ba l)[p]'hps).toNat = c.toNat := by rw [hc]
  have p0 : (p : Int) < ((ba l).size : Int) := by omega
  have p1 : (0 : Int) ≤ (p : Int) := by omega
  have hl1 : p + 1 < (ba l).size := by
    rcases Nat.lt_or_ge (p + 1) (ba l).size with h | h
    · exact h
    · rw [← hdr, head_end h] at hh
      cases hh
  have hy1 : ((ba l)[p + 1]'hl1).toNat = 47 := by
    have := head_get hl1
    rw [hdr, hh] at this
    injection this with this
    rw [← this]
    rfl
  have hdF : l.drop (p + 1 + 1) = r.tail := by
    rw [← hdr, ← List.drop_one, List.drop_drop]
  have q1 : (p : Int) + 1 < ((ba l).size : Int) := by omega
  have hV1 : tokV (tokO p (markO c r)) = tokV (tokO p (if c = 60 then (if nameB (r.tail.takeWhile inB) = true ∧ (r.tail.drop (r.tail.takeWhile inB).length).head? = some 62 then some (6, r.tail.takeWhile inB, (r.tail.takeWhile inB).length + 3) else none) else none)) := by unfold markO; rw [elemT_slash hh]
  have hFl : (p + 1 + 1) ≤ l.length := by omega
  have hwl := congrArg List.length (tw_split (p := inB) r.tail).1
  rw [List.length_append, List.length_drop] at hwl
  have hdl := congrArg List.length hdF
  rw [List.length_drop] at hdl
  have hcutw : (ba l).extract (p + 1 + 1) ((p + 1 + 1) + (r.tail.takeWhile inB).length) = ba (r.tail.takeWhile inB) := by rw [ba_ext (ba_list l), hdF, Nat.add_sub_cancel_left, tw_take]
  have hR0 : (p + 1 + 1) + (r.tail.takeWhile inB).length = (p + 1 + 1) + ((l.drop (p + 1 + 1)).takeWhile inB).length := by rw [hdF]
  have hdR : ∀ j, r.tail.drop ((r.tail.takeWhile inB).length + j) = l.drop ((p + 1 + 1) + (r.tail.takeWhile inB).length + j) := by intro j; rw [← hdF, List.drop_drop]; congr 1; omega
  have hdR0 := hdR 0
  have hdR1 := hdR 1
  rw [Nat.add_zero, Nat.add_zero] at hdR0
  rw [hdR0] at hV1
  have hnn := fun W => rname_any (ba (r.tail.takeWhile inB)) (by rw [ba_size]; omega) W
  unfold BoolP at hnn
  rw [ba_list] at hnn
  obtain ⟨V, hV⟩ : ∃ V, tokV (tokO p (markO c r)) = V := ⟨_, rfl⟩
  rw [hV]
  rw [hV] at hV1
  obtain ⟨t, ht⟩ : ∃ t, r.tail.takeWhile inB = t := ⟨_, rfl⟩
  rw [ht] at hwl hcutw hR0 hV1 hnn
  obtain ⟨R, hR⟩ : ∃ R, (p + 1 + 1) + t.length = R := ⟨_, rfl⟩
  rw [hR] at hcutw hR0 hV1
  have hRl : R ≤ l.length := by omega
  obtain ⟨b, hb⟩ : ∃ b, nameB t = b := ⟨_, rfl⟩
  rw [hb] at hnn hV1
  have HR := Lib.hid hR
  have HR0 := Lib.hid hR0
  have HCUT := Lib.hid hcutw
  have HV := Lib.hid hV1
  have HN := Lib.hid hnn
  have HL := Lib.hid hl
  have fmin : min ((p : Int) + 1 + 1 : Int) (l.length : Int) = (p : Int) + 1 + 1 := by omega
  clear hwl hdl hcutw hR hR0 hd hdr hc hV hV1 ht hnn hb hdF hdR hdR0 hdR1 hh
  go_enter Try.func35, Try.ntmps35
  go_wp2
  go_loopw [7] (fun iv wr => ∃ m : Nat, (p + 1 + 1) ≤ m ∧ m ≤ l.length ∧ iv = .int .i64 m ∧ R = m + ((l.drop m).takeWhile inB).length ∧ wr = (w.alloc (.cells #[.int .i64 0, .string ⟨#[]⟩, .int .i64 0, .int .i64 0] 36))) (fun iv _ => l.length - (intOf iv).toNat)
  case atStart => exact ⟨(p + 1 + 1), Nat.le_refl _, by omega, by go_num, HR0.out, rfl⟩
  case round =>
    obtain ⟨m, hpm, hml, rfl, hm, rfl⟩ := hrel
    have m0 : (0 : Int) ≤ (m : Int) := by omega
    have hgo : (∃ hlt : m < (ba l).size, inB ((ba l)[m]'hlt) = true) ∨ R = m := by
      by_cases hlt : m < (ba l).size
      · cases hw : inB ((ba l)[m]'hlt) with
        | true => exact .inl ⟨hlt, hw⟩
        | false => exact .inr (run_stop hlt hw hm)
      · exact .inr (run_end (by omega) hm)
    rcases hgo with ⟨hlt, hw⟩ | hRm
    · have hm2 := run_step hlt hw hm
      obtain ⟨y, hy⟩ : ∃ y : Nat, ((ba l)[m]'hlt).toNat = y := ⟨_, rfl⟩
      have hwy : inI (y : Int) = true := by rw [← hy]; exact hw
      have hwd := fun W => inner_any (y : Int) W
      unfold BoolP at hwd
      rw [hwy] at hwd
      have HW := Lib.hid hwd
      have HM := Lib.hid hm2
      have m1 : (m : Int) < ((ba l).size : Int) := by omega
      clear hm hm2 hwd hwy hw
      go_wp2_with fail
      refine (HW.out _).mono ?_
      rintro e w1 ⟨rfl, rfl⟩
      go_wp2
      go_roundw
      case rel => exact ⟨m + 1, by omega, by omega, by go_num, HM.out, trivial⟩
      case measure => simp [intOf] <;> omega
    · have hv := HV.out
      rw [hRm] at hv HCUT
      have HRR := Lib.hid (hRm.symm.trans HR.out.symm)
      have HCUT := Lib.hid HCUT.out
      by_cases hlt : m < (ba l).size
      · have hrun := fun h => run_step hlt h hm
        obtain ⟨y, hy⟩ : ∃ y : Nat, ((ba l)[m]'hlt).toNat = y := ⟨_, rfl⟩
        have hhd : (l.drop m).head? = some ((ba l)[m]'hlt) := head_get hlt
        have hwy : inI (y : Int) = false := by
          cases hw : inI (y : Int) with
          | false => rfl
          | true =>
            have h := hrun (by unfold inB; rw [hy]; exact hw)
            omega
        have hwd := fun W => inner_any (y : Int) W
        unfold BoolP at hwd
        rw [hwy] at hwd
        have HW := Lib.hid hwd
        have m1 : (m : Int) < ((ba l).size : Int) := by omega
        rw [hhd] at hv
        have h62 : some ((ba l)[m]'hlt) = some (62 : UInt8) ↔ y = 62 := by
          rw [Option.some.injEq, ← UInt8.toNat_inj, hy]
          exact Iff.rfl
        by_cases c6 : c = 60
        · subst c6
          rw [if_pos rfl] at hv
          cases b
          case false =>
            rw [if_neg (by simp)] at hv
            have HV2 := Lib.hid hv
            clear hm hv hrun hwy hwd hhd h62
            go_wp2_with fail
            refine (HW.out _).mono ?_
            rintro e w1 ⟨rfl, rfl⟩
            go_wp2_with fail
            rw [HCUT.out]
            refine (HN.out _).mono ?_
            rintro e w1 ⟨rfl, rfl⟩
            go_wp2
            refine bodyPost_ret (results_cell_row rfl _ _ w.heap.size _ _ _ _ rfl (heap_alloc_new w _) Try.underlying36 rfl (by kernel_rfl)) rfl ?_
            exact ⟨tok_eq0 HV2.out, (Below.refl _ _).alloc (Nat.le_refl _) _⟩
          case true =>
            by_cases y6 : y = 62
            · subst y6
              rw [if_pos ⟨rfl, h62.2 rfl⟩] at hv
              have HV2 := Lib.hid hv
              clear hm hv hrun hwy hwd hhd h62
              go_wp2_with fail
              refine (HW.out _).mono ?_
              rintro e w1 ⟨rfl, rfl⟩
              go_wp2_with fail
              rw [HCUT.out]
              refine (HN.out _).mono ?_
              rintro e w1 ⟨rfl, rfl⟩
              go_wp2
              refine bodyPost_ret (results_cell_row rfl _ _ w.heap.size _ _ _ _ rfl (heap_alloc_new w _) Try.underlying36 rfl (by kernel_rfl)) rfl ?_
              exact ⟨tok_eq' 6 HV2.out (by first | rfl | exact HCUT.out) (by have := HRR.out; omega), (Below.refl _ _).alloc (Nat.le_refl _) _⟩
            · rw [if_neg (fun h => y6 (h62.1 h.2))] at hv
              have e6 : ((y : Int) != 62) = true := by simp; omega
              have HV2 := Lib.hid hv
              clear hm hv hrun hwy hwd hhd h62
              go_wp2_with fail
              refine (HW.out _).mono ?_
              rintro e w1 ⟨rfl, rfl⟩
              go_wp2_with fail
              rw [HCUT.out]
              refine (HN.out _).mono ?_
              rintro e w1 ⟨rfl, rfl⟩
              go_wp2
              refine bodyPost_ret (results_cell_row rfl _ _ w.heap.size _ _ _ _ rfl (heap_alloc_new w _) Try.underlying36 rfl (by kernel_rfl)) rfl ?_
              exact ⟨tok_eq0 HV2.out, (Below.refl _ _).alloc (Nat.le_refl _) _⟩
        · rw [if_neg c6] at hv
          have d6 : ((c.toNat : Int) != 60) = true := by
            have := ne_num (c := c) (d := 60) (n := 60) rfl c6
            simpa using this
          have HV2 := Lib.hid hv
          clear hm hv hrun hwy hwd hhd h62
          go_wp2_with fail
          refine (HW.out _).mono ?_
          rintro e w1 ⟨rfl, rfl⟩
          go_wp2
          refine bodyPost_ret (results_cell_row rfl _ _ w.heap.size _ _ _ _ rfl (heap_alloc_new w _) Try.underlying36 rfl (by kernel_rfl)) rfl ?_
          exact ⟨tok_eq0 HV2.out, (Below.refl _ _).alloc (Nat.le_refl _) _⟩
      · have hms : m = l.length := by omega
        rw [head_end (by omega)] at hv
        have hq2 : ((l.length : Nat) : Int) ≤ (m : Int) := by omega
        subst hms
        by_cases c6 : c = 60
        · subst c6
          rw [if_pos rfl, if_neg (fun h => by cases h.2)] at hv
          cases b
          case false =>
            have HV2 := Lib.hid hv
            clear hm hv
            go_wp2_with fail
            rw [HCUT.out]
            refine (HN.out _).mono ?_
            rintro e w1 ⟨rfl, rfl⟩
            go_wp2
            refine bodyPost_ret (results_cell_row rfl _ _ w.heap.size _ _ _ _ rfl (heap_alloc_new w _) Try.underlying36 rfl (by kernel_rfl)) rfl ?_
            exact ⟨tok_eq0 HV2.out, (Below.refl _ _).alloc (Nat.le_refl _) _⟩
          case true =>
            have HV2 := Lib.hid hv
            clear hm hv
            go_wp2_with fail
            rw [HCUT.out]
            refine (HN.out _).mono ?_
            rintro e w1 ⟨rfl, rfl⟩
            go_wp2
            refine bodyPost_ret (results_cell_row rfl _ _ w.heap.size _ _ _ _ rfl (heap_alloc_new w _) Try.underlying36 rfl (by kernel_rfl)) rfl ?_
            exact ⟨tok_eq0 HV2.out, (Below.refl _ _).alloc (Nat.le_refl _) _⟩
        · rw [if_neg c6] at hv
          have d6 : ((c.toNat : Int) != 60) = true := by
            have := ne_num (c := c) (d := 60) (n := 60) rfl c6
            simpa using this
          have HV2 := Lib.hid hv
          clear hm hv
          go_wp2
          refine bodyPost_ret (results_cell_row rfl _ _ w.heap.size _ _ _ _ rfl (heap_alloc_new w _) Try.underlying36 rfl (by kernel_rfl)) rfl ?_
          exact ⟨tok_eq0 HV2.out, (Below.refl _ _).alloc (Nat.le_refl _) _⟩

set_option maxRecDepth 100000 in
set_option maxHeartbeats 4000000 in
theorem mark_plain (l : By) (p : Nat) (c : UInt8) (r : By) (hd : l.drop p = c :: r) (hl : l.length ≤ 100000) (hh : ¬ r.head? = some 47) (w : World) : Calls Try.prog 35 #[.string (ba l), .int .i64 p] w (MarkP p c r w) := by
  unfold MarkP TokP
  obtain ⟨hp, hdr, hc⟩ := drop_at hd
  have hsz : (ba l).size = l.length := rfl
  have hps : p < (ba l).size := hp
  have hc := hc hps
  have hx : ((ba l)[p]'hps).toNat = c.toNat := by rw [hc]
  have p0 : (p : Int) < ((ba l).size : Int) := by omega
  have p1 : (0 : Int) ≤ (p : Int) := by omega
  have hdF : l.drop (p + 1) = r := hdr
  have hy1 : ∀ h : p + 1 < (ba l).size, (((ba l)[p + 1]'h).toNat : Int) ≠ 47 := by
    intro h e
    apply hh
    rw [← hdr, head_get h]
    congr 1
    exact UInt8.toNat_inj.1 (by
      have e2 : (47 : UInt8).toNat = 47 := rfl
      omega)
  have hV1 : tokV (tokO p (markO c r)) = tokV (tokO p (if c = 60 then (if nameB (r.takeWhile inB) = true then (if (r.drop (r.takeWhile inB).length).head? = some 62 then some (5, r.takeWhile inB, (r.takeWhile inB).length + 2) else if (r.drop (r.takeWhile inB).length).head? = some 47 ∧ (r.drop ((r.takeWhile inB).length + 1)).head? = some 62 then some (7, r.takeWhile inB, (r.takeWhile inB).length + 3) else none) else none) else none)) := by unfold markO; rw [elemT_else hh]
  have hFl : (p + 1) ≤ l.length := by omega
  have hwl := congrArg List.length (tw_split (p := inB) r).1
  rw [List.length_append, List.length_drop] at hwl
  have hdl := congrArg List.length hdF
  rw [List.length_drop] at hdl
  have hcutw : (ba l).extract (p + 1) ((p + 1) + (r.takeWhile inB).length) = ba (r.takeWhile inB) := by rw [ba_ext (ba_list l), hdF, Nat.add_sub_cancel_left, tw_take]
  have hR0 : (p + 1) + (r.takeWhile inB).length = (p + 1) + ((l.drop (p + 1)).takeWhile inB).length := by rw [hdF]
  have hdR : ∀ j, r.drop ((r.takeWhile inB).length + j) = l.drop ((p + 1) + (r.takeWhile inB).length + j) := by intro j; rw [← hdF, List.drop_drop]; congr 1; omega
  have hdR0 := hdR 0
  have hdR1 := hdR 1
  rw [Nat.add_zero, Nat.add_zero] at hdR0
  rw [hdR0, hdR1] at hV1
  have hnn := fun W => rname_any (ba (r.takeWhile inB)) (by rw [ba_size]; omega) W
  unfold BoolP at hnn
  rw [ba_list] at hnn
  obtain ⟨V, hV⟩ : ∃ V, tokV (tokO p (markO c r)) = V := ⟨_, rfl⟩
  rw [hV]
  rw [hV] at hV1
  obtain ⟨t, ht⟩ : ∃ t, r.takeWhile inB = t := ⟨_, rfl⟩
  rw [ht] at hwl hcutw hR0 hV1 hnn
  obtain ⟨R, hR⟩ : ∃ R, (p + 1) + t.length = R := ⟨_, rfl⟩
  rw [hR] at hcutw hR0 hV1
  have hRl : R ≤ l.length := by omega
  obtain ⟨b, hb⟩ : ∃ b, nameB t = b := ⟨_, rfl⟩
  rw [hb] at hnn hV1
  have HR := Lib.hid hR
  have HR0 := Lib.hid hR0
  have HCUT := Lib.hid hcutw
  have HV := Lib.hid hV1
  have HN := Lib.hid hnn
  have HL := Lib.hid hl
  have fmin : min ((p : Int) + 1 : Int) (l.length : Int) = (p : Int) + 1 := by omega
  clear hwl hdl hcutw hR hR0 hd hdr hc hV hV1 ht hnn hb hdF hdR hdR0 hdR1 hh
  have hqq : (∃ hq : p + 1 < (ba l).size, (p : Int) + 1 < ((ba l).size : Int) ∧ (((((ba l)[p + 1]'hq).toNat : Nat) : Int) == 47) = false) ∨ ¬ (p : Int) + 1 < ((ba l).size : Int) := by
    by_cases hq : p + 1 < (ba l).size
    · exact .inl ⟨hq, by omega, by simpa using hy1 hq⟩
    · exact .inr (by omega)
  clear hy1
  rcases hqq with ⟨hq, q1, hy2⟩ | q1
  case inr =>
    go_enter Try.func35, Try.ntmps35
    go_wp2
    go_loopw [7] (fun iv wr => iv = .int .i64 ((p : Int) + 1) ∧ wr = (w.alloc (.cells #[.int .i64 0, .string ⟨#[]⟩, .int .i64 0, .int .i64 0] 36))) (fun iv _ => 0)
    case atStart => exact ⟨rfl, rfl⟩
    case round =>
      obtain ⟨rfl, rfl⟩ := hrel
      have hpl : l.length = p + 1 := by omega
      have hR1 : R = p + 1 := by have := HR.out; omega
      have hv := HV.out
      rw [head_end (by omega)] at hv
      have hcut := HCUT.out
      rw [hR1] at hcut
      have hemp : ByteArray.empty = ba t := by rw [← hcut]; simp
      have HCUT := Lib.hid hemp
      by_cases c6 : c = 60
      · subst c6
        rw [if_pos rfl, if_neg (show ¬ (none : Option UInt8) = some 62 from by simp), if_neg (show ¬ ((none : Option UInt8) = some 47 ∧ _) from fun h => by cases h.1)] at hv
        cases b
        case false =>
          rw [if_neg (by simp)] at hv
          have HV2 := Lib.hid hv
          clear hv hcut hemp
          go_wp2_with fail
          rw [HCUT.out]
          refine (HN.out _).mono ?_
          rintro e w1 ⟨rfl, rfl⟩
          go_wp2
          refine bodyPost_ret (results_cell_row rfl _ _ w.heap.size _ _ _ _ rfl (heap_alloc_new w _) Try.underlying36 rfl (by kernel_rfl)) rfl ?_
          exact ⟨tok_eq0 HV2.out, (Below.refl _ _).alloc (Nat.le_refl _) _⟩
        case true =>
          rw [if_pos rfl] at hv
          have HV2 := Lib.hid hv
          clear hv hcut hemp
          go_wp2_with fail
          rw [HCUT.out]
          refine (HN.out _).mono ?_
          rintro e w1 ⟨rfl, rfl⟩
          go_wp2
          refine bodyPost_ret (results_cell_row rfl _ _ w.heap.size _ _ _ _ rfl (heap_alloc_new w _) Try.underlying36 rfl (by kernel_rfl)) rfl ?_
          exact ⟨tok_eq0 HV2.out, (Below.refl _ _).alloc (Nat.le_refl _) _⟩
      · rw [if_neg c6] at hv
        have d6 : ((c.toNat : Int) != 60) = true := by
          have := ne_num (c := c) (d := 60) (n := 60) rfl c6
          simpa using this
        have HV2 := Lib.hid hv
        clear hv hcut hemp
        go_wp2
        refine bodyPost_ret (results_cell_row rfl _ _ w.heap.size _ _ _ _ rfl (heap_alloc_new w _) Try.underlying36 rfl (by kernel_rfl)) rfl ?_
        exact ⟨tok_eq0 HV2.out, (Below.refl _ _).alloc (Nat.le_refl _) _⟩
  go_enter Try.func35, Try.ntmps35
  go_wp2
  go_loopw [7] (fun iv wr => ∃ m : Nat, (p + 1) ≤ m ∧ m ≤ l.length ∧ iv = .int .i64 m ∧ R = m + ((l.drop m).takeWhile inB).length ∧ wr = (w.alloc (.cells #[.int .i64 0, .string ⟨#[]⟩, .int .i64 0, .int .i64 0] 36))) (fun iv _ => l.length - (intOf iv).toNat)
  case atStart => exact ⟨(p + 1), Nat.le_refl _, by omega, by go_num, HR0.out, rfl⟩
  case round =>
    obtain ⟨m, hpm, hml, rfl, hm, rfl⟩ := hrel
    have m0 : (0 : Int) ≤ (m : Int) := by omega
    have hgo : (∃ hlt : m < (ba l).size, inB ((ba l)[m]'hlt) = true) ∨ R = m := by
      by_cases hlt : m < (ba l).size
      · cases hw : inB ((ba l)[m]'hlt) with
        | true => exact .inl ⟨hlt, hw⟩
        | false => exact .inr (run_stop hlt hw hm)
      · exact .inr (run_end (by omega) hm)
    rcases hgo with ⟨hlt, hw⟩ | hRm
    · have hm2 := run_step hlt hw hm
      obtain ⟨y, hy⟩ : ∃ y : Nat, ((ba l)[m]'hlt).toNat = y := ⟨_, rfl⟩
      have hwy : inI (y : Int) = true := by rw [← hy]; exact hw
      have hwd := fun W => inner_any (y : Int) W
      unfold BoolP at hwd
      rw [hwy] at hwd
      have HW := Lib.hid hwd
      have HM := Lib.hid hm2
      have m1 : (m : Int) < ((ba l).size : Int) := by omega
      clear hm hm2 hwd hwy hw
      go_wp2_with fail
      refine (HW.out _).mono ?_
      rintro e w1 ⟨rfl, rfl⟩
      go_wp2
      go_roundw
      case rel => exact ⟨m + 1, by omega, by omega, by go_num, HM.out, trivial⟩
      case measure => simp [intOf] <;> omega
    · have hv := HV.out
      rw [hRm] at hv HCUT
      have HRR := Lib.hid (hRm.symm.trans HR.out.symm)
      have HCUT := Lib.hid HCUT.out
      by_cases hlt : m < (ba l).size
      · have hrun := fun h => run_step hlt h hm
        obtain ⟨y, hy⟩ : ∃ y : Nat, ((ba l)[m]'hlt).toNat = y := ⟨_, rfl⟩
        have hhd : (l.drop m).head? = some ((ba l)[m]'hlt) := head_get hlt
        have hwy : inI (y : Int) = false := by
          cases hw : inI (y : Int) with
          | false => rfl
          | true =>
            have h := hrun (by unfold inB; rw [hy]; exact hw)
            omega
        have hwd := fun W => inner_any (y : Int) W
        unfold BoolP at hwd
        rw [hwy] at hwd
        have HW := Lib.hid hwd
        have m1 : (m : Int) < ((ba l).size : Int) := by omega
        rw [hhd] at hv
        have h62 : some ((ba l)[m]'hlt) = some (62 : UInt8) ↔ y = 62 := by
          rw [Option.some.injEq, ← UInt8.toNat_inj, hy]
          exact Iff.rfl
        have h47 : some ((ba l)[m]'hlt) = some (47 : UInt8) ↔ y = 47 := by
          rw [Option.some.injEq, ← UInt8.toNat_inj, hy]
          exact Iff.rfl
        by_cases y4 : y = 47
        · subst y4
          rw [if_neg (fun h => absurd (h62.1 h) (by decide))] at hv
          by_cases hq2 : m + 1 < (ba l).size
          · obtain ⟨z, hz⟩ : ∃ z : Nat, ((ba l)[m + 1]'hq2).toNat = z := ⟨_, rfl⟩
            have m2 : (m : Int) + 1 < ((ba l).size : Int) := by omega
            have hhd2 : (l.drop (m + 1)).head? = some ((ba l)[m + 1]'hq2) := head_get hq2
            rw [hhd2] at hv
            have g62 : some ((ba l)[m + 1]'hq2) = some (62 : UInt8) ↔ z = 62 := by
              rw [Option.some.injEq, ← UInt8.toNat_inj, hz]
              exact Iff.rfl
            clear hhd2
            by_cases c6 : c = 60
            · subst c6
              rw [if_pos rfl] at hv
              cases b
              case false =>
                rw [if_neg (by simp)] at hv
                have HV2 := Lib.hid hv
                clear hm hv hrun hwy hwd hhd h62 h47
                go_wp2_with fail
                refine (HW.out _).mono ?_
                rintro e w1 ⟨rfl, rfl⟩
                go_wp2_with fail
                rw [HCUT.out]
                refine (HN.out _).mono ?_
                rintro e w1 ⟨rfl, rfl⟩
                go_wp2
                refine bodyPost_ret (results_cell_row rfl _ _ w.heap.size _ _ _ _ rfl (heap_alloc_new w _) Try.underlying36 rfl (by kernel_rfl)) rfl ?_
                exact ⟨tok_eq0 HV2.out, (Below.refl _ _).alloc (Nat.le_refl _) _⟩
              case true =>
                rw [if_pos rfl] at hv
                by_cases z6 : z = 62
                · subst z6
                  rw [if_pos ⟨h47.2 rfl, g62.2 rfl⟩] at hv
                  have HV2 := Lib.hid hv
                  clear hm hv hrun hwy hwd hhd h62 h47
                  go_wp2_with fail
                  refine (HW.out _).mono ?_
                  rintro e w1 ⟨rfl, rfl⟩
                  go_wp2_with fail
                  rw [HCUT.out]
                  refine (HN.out _).mono ?_
                  rintro e w1 ⟨rfl, rfl⟩
                  go_wp2
                  refine bodyPost_ret (results_cell_row rfl _ _ w.heap.size _ _ _ _ rfl (heap_alloc_new w _) Try.underlying36 rfl (by kernel_rfl)) rfl ?_
                  exact ⟨tok_eq' 7 HV2.out (by first | rfl | exact HCUT.out) (by have := HRR.out; omega), (Below.refl _ _).alloc (Nat.le_refl _) _⟩
                · rw [if_neg (fun h => z6 (g62.1 h.2))] at hv
                  have e6 : ((z : Int) != 62) = true := by simp; omega
                  have HV2 := Lib.hid hv
                  clear hm hv hrun hwy hwd hhd h62 h47
                  go_wp2_with fail
                  refine (HW.out _).mono ?_
                  rintro e w1 ⟨rfl, rfl⟩
                  go_wp2_with fail
                  rw [HCUT.out]
                  refine (HN.out _).mono ?_
                  rintro e w1 ⟨rfl, rfl⟩
                  go_wp2
                  refine bodyPost_ret (results_cell_row rfl _ _ w.heap.size _ _ _ _ rfl (heap_alloc_new w _) Try.underlying36 rfl (by kernel_rfl)) rfl ?_
                  exact ⟨tok_eq0 HV2.out, (Below.refl _ _).alloc (Nat.le_refl _) _⟩
            · rw [if_neg c6] at hv
              have d6 : ((c.toNat : Int) != 60) = true := by
                have := ne_num (c := c) (d := 60) (n := 60) rfl c6
                simpa using this
              have HV2 := Lib.hid hv
              clear hm hv hrun hwy hwd hhd h62 h47
              go_wp2_with fail
              refine (HW.out _).mono ?_
              rintro e w1 ⟨rfl, rfl⟩
              go_wp2
              refine bodyPost_ret (results_cell_row rfl _ _ w.heap.size _ _ _ _ rfl (heap_alloc_new w _) Try.underlying36 rfl (by kernel_rfl)) rfl ?_
              exact ⟨tok_eq0 HV2.out, (Below.refl _ _).alloc (Nat.le_refl _) _⟩
          · have m2 : ¬ (m : Int) + 1 < ((ba l).size : Int) := by omega
            rw [head_end (m := m + 1) (by omega)] at hv
            by_cases c6 : c = 60
            · subst c6
              rw [if_pos rfl] at hv
              cases b
              case false =>
                rw [if_neg (by simp)] at hv
                have HV2 := Lib.hid hv
                clear hm hv hrun hwy hwd hhd h62 h47
                go_wp2_with fail
                refine (HW.out _).mono ?_
                rintro e w1 ⟨rfl, rfl⟩
                go_wp2_with fail
                rw [HCUT.out]
                refine (HN.out _).mono ?_
                rintro e w1 ⟨rfl, rfl⟩
                go_wp2
                refine bodyPost_ret (results_cell_row rfl _ _ w.heap.size _ _ _ _ rfl (heap_alloc_new w _) Try.underlying36 rfl (by kernel_rfl)) rfl ?_
                exact ⟨tok_eq0 HV2.out, (Below.refl _ _).alloc (Nat.le_refl _) _⟩
              case true =>
                rw [if_pos rfl, if_neg (fun h => by cases h.2)] at hv
                have HV2 := Lib.hid hv
                clear hm hv hrun hwy hwd hhd h62 h47
                go_wp2_with fail
                refine (HW.out _).mono ?_
                rintro e w1 ⟨rfl, rfl⟩
                go_wp2_with fail
                rw [HCUT.out]
                refine (HN.out _).mono ?_
                rintro e w1 ⟨rfl, rfl⟩
                go_wp2
                refine bodyPost_ret (results_cell_row rfl _ _ w.heap.size _ _ _ _ rfl (heap_alloc_new w _) Try.underlying36 rfl (by kernel_rfl)) rfl ?_
                exact ⟨tok_eq0 HV2.out, (Below.refl _ _).alloc (Nat.le_refl _) _⟩
            · rw [if_neg c6] at hv
              have d6 : ((c.toNat : Int) != 60) = true := by
                have := ne_num (c := c) (d := 60) (n := 60) rfl c6
                simpa using this
              have HV2 := Lib.hid hv
              clear hm hv hrun hwy hwd hhd h62 h47
              go_wp2_with fail
              refine (HW.out _).mono ?_
              rintro e w1 ⟨rfl, rfl⟩
              go_wp2
              refine bodyPost_ret (results_cell_row rfl _ _ w.heap.size _ _ _ _ rfl (heap_alloc_new w _) Try.underlying36 rfl (by kernel_rfl)) rfl ?_
              exact ⟨tok_eq0 HV2.out, (Below.refl _ _).alloc (Nat.le_refl _) _⟩
        · have e4 : ((y : Int) == 47) = false := by simp; omega
          by_cases c6 : c = 60
          · subst c6
            rw [if_pos rfl] at hv
            cases b
            case false =>
              rw [if_neg (by simp)] at hv
              have HV2 := Lib.hid hv
              clear hm hv hrun hwy hwd hhd h62 h47
              go_wp2_with fail
              refine (HW.out _).mono ?_
              rintro e w1 ⟨rfl, rfl⟩
              go_wp2_with fail
              rw [HCUT.out]
              refine (HN.out _).mono ?_
              rintro e w1 ⟨rfl, rfl⟩
              go_wp2
              refine bodyPost_ret (results_cell_row rfl _ _ w.heap.size _ _ _ _ rfl (heap_alloc_new w _) Try.underlying36 rfl (by kernel_rfl)) rfl ?_
              exact ⟨tok_eq0 HV2.out, (Below.refl _ _).alloc (Nat.le_refl _) _⟩
            case true =>
              rw [if_pos rfl] at hv
              by_cases y6 : y = 62
              · subst y6
                rw [if_pos (h62.2 rfl)] at hv
                have HV2 := Lib.hid hv
                clear hm hv hrun hwy hwd hhd h62 h47
                go_wp2_with fail
                refine (HW.out _).mono ?_
                rintro e w1 ⟨rfl, rfl⟩
                go_wp2_with fail
                rw [HCUT.out]
                refine (HN.out _).mono ?_
                rintro e w1 ⟨rfl, rfl⟩
                go_wp2
                refine bodyPost_ret (results_cell_row rfl _ _ w.heap.size _ _ _ _ rfl (heap_alloc_new w _) Try.underlying36 rfl (by kernel_rfl)) rfl ?_
                exact ⟨tok_eq' 5 HV2.out (by first | rfl | exact HCUT.out) (by have := HRR.out; omega), (Below.refl _ _).alloc (Nat.le_refl _) _⟩
              · rw [if_neg (fun h => y6 (h62.1 h)), if_neg (fun h => y4 (h47.1 h.1))] at hv
                have e6 : ((y : Int) != 62) = true := by simp; omega
                have HV2 := Lib.hid hv
                clear hm hv hrun hwy hwd hhd h62 h47
                go_wp2_with fail
                refine (HW.out _).mono ?_
                rintro e w1 ⟨rfl, rfl⟩
                go_wp2_with fail
                rw [HCUT.out]
                refine (HN.out _).mono ?_
                rintro e w1 ⟨rfl, rfl⟩
                go_wp2
                refine bodyPost_ret (results_cell_row rfl _ _ w.heap.size _ _ _ _ rfl (heap_alloc_new w _) Try.underlying36 rfl (by kernel_rfl)) rfl ?_
                exact ⟨tok_eq0 HV2.out, (Below.refl _ _).alloc (Nat.le_refl _) _⟩
          · rw [if_neg c6] at hv
            have d6 : ((c.toNat : Int) != 60) = true := by
              have := ne_num (c := c) (d := 60) (n := 60) rfl c6
              simpa using this
            have HV2 := Lib.hid hv
            clear hm hv hrun hwy hwd hhd h62 h47
            go_wp2_with fail
            refine (HW.out _).mono ?_
            rintro e w1 ⟨rfl, rfl⟩
            go_wp2
            refine bodyPost_ret (results_cell_row rfl _ _ w.heap.size _ _ _ _ rfl (heap_alloc_new w _) Try.underlying36 rfl (by kernel_rfl)) rfl ?_
            exact ⟨tok_eq0 HV2.out, (Below.refl _ _).alloc (Nat.le_refl _) _⟩
      · have hms : m = l.length := by omega
        rw [head_end (by omega)] at hv
        have hq2 : ((l.length : Nat) : Int) ≤ (m : Int) := by omega
        subst hms
        by_cases c6 : c = 60
        · subst c6
          rw [if_pos rfl, if_neg (show ¬ (none : Option UInt8) = some 62 from by simp), if_neg (show ¬ ((none : Option UInt8) = some 47 ∧ _) from fun h => by cases h.1)] at hv
          cases b
          case false =>
            rw [if_neg (by simp)] at hv
            have HV2 := Lib.hid hv
            clear hm hv
            go_wp2_with fail
            rw [HCUT.out]
            refine (HN.out _).mono ?_
            rintro e w1 ⟨rfl, rfl⟩
            go_wp2
            refine bodyPost_ret (results_cell_row rfl _ _ w.heap.size _ _ _ _ rfl (heap_alloc_new w _) Try.underlying36 rfl (by kernel_rfl)) rfl ?_
            exact ⟨tok_eq0 HV2.out, (Below.refl _ _).alloc (Nat.le_refl _) _⟩
          case true =>
            rw [if_pos rfl] at hv
            have HV2 := Lib.hid hv
            clear hm hv
            go_wp2_with fail
            rw [HCUT.out]
            refine (HN.out _).mono ?_
            rintro e w1 ⟨rfl, rfl⟩
            go_wp2
            refine bodyPost_ret (results_cell_row rfl _ _ w.heap.size _ _ _ _ rfl (heap_alloc_new w _) Try.underlying36 rfl (by kernel_rfl)) rfl ?_
            exact ⟨tok_eq0 HV2.out, (Below.refl _ _).alloc (Nat.le_refl _) _⟩
        · rw [if_neg c6] at hv
          have d6 : ((c.toNat : Int) != 60) = true := by
            have := ne_num (c := c) (d := 60) (n := 60) rfl c6
            simpa using this
          have HV2 := Lib.hid hv
          clear hm hv
          go_wp2
          refine bodyPost_ret (results_cell_row rfl _ _ w.heap.size _ _ _ _ rfl (heap_alloc_new w _) Try.underlying36 rfl (by kernel_rfl)) rfl ?_
          exact ⟨tok_eq0 HV2.out, (Below.refl _ _).alloc (Nat.le_refl _) _⟩

theorem mark_any (l : By) (p : Nat) (c : UInt8) (r : By) (hd : l.drop p = c :: r) (hl : l.length ≤ 100000) (w : World) : Calls Try.prog 35 #[.string (ba l), .int .i64 p] w (MarkP p c r w) := by
  by_cases hh : r.head? = some 47
  · exact mark_slash l p c r hd hl hh w
  · exact mark_plain l p c r hd hl hh w
end Go.Proofs.Ytpjafemkdoeflaa
