/-
  calqueref25.braces: the first token in braces.
-/
import Derived.Test.YtpjafemkdoeflaaTk6
import Derived.Laws.Rows
namespace Go.Proofs.Ytpjafemkdoeflaa
open Go.RowKit

/-- A token of the reference as a value. -/
def tokV (o : Option Tok) : Value := match o with
  | none => .agg #[.int .i64 0, .string ⟨#[]⟩, .int .i64 0, .int .i64 0]
  | some (k, t, a, b) => .agg #[.int .i64 k, .string (ba t), .int .i64 a, .int .i64 b]
def tokO (p : Nat) (o : Option (Nat × By × Nat)) : Option Tok := o.map fun x => (x.1, x.2.1, p, p + x.2.2)
def TokP (o : Option Tok) (w : World) (e : Ending) (w' : World) : Prop := e = .returned (tokV o) ∧ Below w.heap.size w w'
theorem tok_none (w : World) (t : TypeId) : (w.alloc (.cells #[.int .i64 0, .string ⟨#[]⟩, .int .i64 0, .int .i64 0] t)).heap[w.heap.size]? = some (.cells #[.int .i64 0, .string ⟨#[]⟩, .int .i64 0, .int .i64 0] t (0, 0)) := heap_alloc_new w _
theorem drop_at {l : By} {p : Nat} {c : UInt8} {r : By} (h : l.drop p = c :: r) : p < l.length ∧ l.drop (p + 1) = r ∧ ∀ hp : p < (ba l).size, (ba l)[p]'hp = c := by
  have hl : p < l.length := by
    rcases Nat.lt_or_ge p l.length with h1 | h1
    · exact h1
    · rw [List.drop_eq_nil_of_le h1] at h
      cases h
  refine ⟨hl, ?_, fun hp => ?_⟩
  · rw [← List.drop_drop, h]
    rfl
  · have := drop_byte (s := ba l) (k := p) hp
    rw [ba_list, h] at this
    injection this with h1 _
    exact h1.symm

theorem run_step {p : UInt8 → Bool} {l : By} {m R : Nat} (hm : m < (ba l).size) (hp : p ((ba l)[m]'hm) = true) (h : R = m + ((l.drop m).takeWhile p).length) : R = (m + 1) + ((l.drop (m + 1)).takeWhile p).length := by
  have e := drop_byte (s := ba l) hm
  rw [ba_list] at e
  rw [e, List.takeWhile_cons_of_pos hp, List.length_cons] at h
  omega
theorem run_stop {p : UInt8 → Bool} {l : By} {m R : Nat} (hm : m < (ba l).size) (hp : p ((ba l)[m]'hm) = false) (h : R = m + ((l.drop m).takeWhile p).length) : R = m := by
  have e := drop_byte (s := ba l) hm
  rw [ba_list] at e
  rw [e, List.takeWhile_cons_of_neg (by rw [hp]; decide)] at h
  exact h
theorem run_end {p : UInt8 → Bool} {l : By} {m R : Nat} (hm : l.length ≤ m) (h : R = m + ((l.drop m).takeWhile p).length) : R = m := by
  rw [List.drop_eq_nil_of_le hm] at h
  exact h
theorem tok_eq (k : Nat) {t : By} {a b z : Nat} {s : ByteArray} {V : Value} (hV : V = tokV (tokO a (some (k, t, z)))) (hs : s = ba t) (hb : b = a + z) : Ending.returned (.agg #[.int .i64 k, .string s, .int .i64 a, .int .i64 b]) = .returned V := by
  subst hs hb
  rw [hV]
  rfl
theorem tok_eq1 (k : Nat) {t : By} {a : Nat} {s : ByteArray} {V : Value} (hV : V = tokV (tokO a (some (k, t, 1)))) (hs : s = ba t) : Ending.returned (.agg #[.int .i64 k, .string s, .int .i64 a, .int .i64 ((a : Int) + 1)]) = .returned V := by
  subst hs
  rw [hV]
  rfl
theorem tok_eq0 {a : Nat} {V : Value} (hV : V = tokV (tokO a none)) : Ending.returned (.agg #[.int .i64 0, .string ⟨#[]⟩, .int .i64 0, .int .i64 0]) = .returned V := by
  rw [hV]
  rfl
theorem tok1_braces (c : UInt8) (r : By) : tok1 true (c :: r) = if (c :: r).takeWhile wdB ≠ [] then some (9, (c :: r).takeWhile wdB, ((c :: r).takeWhile wdB).length) else if c = 123 then some (2, [c], 1) else if c = 125 then some (3, [c], 1) else if c = 44 then some (8, [c], 1) else none := by
  by_cases h : (c :: r).takeWhile wdB = []
  · rw [if_neg (by simp [h])]
    unfold tok1
    dsimp only
    rw [h]
    simp
  · rw [if_pos h]
    have hw : wdB c = true := by
      cases hw : wdB c with
      | true => rfl
      | false => exact absurd (List.takeWhile_cons_of_neg (by rw [hw]; decide)) h
    have h1 : c ≠ 123 := by rintro rfl; simp [wdB, wdI] at hw
    have h2 : c ≠ 125 := by rintro rfl; simp [wdB, wdI] at hw
    have h3 : c ≠ 44 := by rintro rfl; simp [wdB, wdI] at hw
    rw [tok1_word h1 h2 h3, if_neg h]

set_option maxRecDepth 100000 in
set_option maxHeartbeats 2000000 in
theorem braces_any (l : By) (p : Nat) (c : UInt8) (r : By) (hd : l.drop p = c :: r) (hl : l.length ≤ 100000) (w : World) : Calls Try.prog 21 #[.string (ba l), .int .i64 p] w (TokP (tokO p (tok1 true (c :: r))) w) := by
  unfold TokP
  obtain ⟨hp, hdr, hc⟩ := drop_at hd
  have hsz : (ba l).size = l.length := rfl
  have hps : p < (ba l).size := hp
  have hc := hc hps
  have hx : ((ba l)[p]'hps).toNat = c.toNat := by rw [hc]
  have p0 : (p : Int) < ((ba l).size : Int) := by omega
  have p1 : (0 : Int) ≤ (p : Int) := by omega
  have hwl := congrArg List.length (tw_split (p := wdB) (c :: r)).1
  rw [List.length_append] at hwl
  have hdl := congrArg List.length hd
  rw [List.length_drop] at hdl
  have hcutw : (ba l).extract p (p + ((c :: r).takeWhile wdB).length) = ba ((c :: r).takeWhile wdB) := by
    rw [ba_ext (ba_list l), hd, Nat.add_sub_cancel_left, tw_take]
  have hR0 : p + ((c :: r).takeWhile wdB).length = p + ((l.drop p).takeWhile wdB).length := by rw [hd]
  have hV1 := congrArg (fun o => tokV (tokO p o)) (tok1_braces c r)
  obtain ⟨V, hV⟩ : ∃ V, tokV (tokO p (tok1 true (c :: r))) = V := ⟨_, rfl⟩
  rw [hV]
  rw [hV] at hV1
  obtain ⟨t, ht⟩ : ∃ t, (c :: r).takeWhile wdB = t := ⟨_, rfl⟩
  rw [ht] at hwl hcutw hR0 hV1
  obtain ⟨R, hR⟩ : ∃ R, p + t.length = R := ⟨_, rfl⟩
  rw [hR] at hcutw hR0
  have hRl : R ≤ l.length := by omega
  have HR := Lib.hid hR
  have HR0 := Lib.hid hR0
  have HCUT := Lib.hid hcutw
  have HV := Lib.hid hV1
  have htR : t ≠ [] ↔ p < R := by
    constructor
    · intro h
      have := List.length_pos_iff.2 h
      omega
    · intro h e
      rw [e] at hR
      simp at hR
      omega
  clear hwl hdl hcutw hR hR0 hd hdr hc ht hV hV1
  go_enter Try.func21, Try.ntmps21
  go_wp2
  go_loopw [5] (fun iv wr => ∃ m : Nat, p ≤ m ∧ m ≤ l.length ∧ iv = .int .i64 m ∧ R = m + ((l.drop m).takeWhile wdB).length ∧ wr = (w.alloc (.cells #[.int .i64 0, .string ⟨#[]⟩, .int .i64 0, .int .i64 0] 36))) (fun iv _ => l.length - (intOf iv).toNat)
  case atStart => exact ⟨p, Nat.le_refl _, by omega, rfl, HR0.out, rfl⟩
  case round =>
    obtain ⟨m, hpm, hml, rfl, hm, rfl⟩ := hrel
    have m0 : (0 : Int) ≤ (m : Int) := by omega
    have hgo : (∃ hlt : m < (ba l).size, wdB ((ba l)[m]'hlt) = true) ∨ R = m := by
      by_cases hlt : m < (ba l).size
      · cases hw : wdB ((ba l)[m]'hlt) with
        | true => exact .inl ⟨hlt, hw⟩
        | false => exact .inr (run_stop hlt hw hm)
      · exact .inr (run_end (by omega) hm)
    rcases hgo with ⟨hlt, hw⟩ | hRm
    · have hm2 := run_step hlt hw hm
      obtain ⟨y, hy⟩ : ∃ y : Nat, ((ba l)[m]'hlt).toNat = y := ⟨_, rfl⟩
      have hwy : wdI (y : Int) = true := by rw [← hy]; exact hw
      have hwd := fun W => wordy_any (y : Int) W
      unfold BoolP at hwd
      rw [hwy] at hwd
      have HW := Lib.hid hwd
      have HM := Lib.hid hm2
      have m1 : (m : Int) < ((ba l).size : Int) := by omega
      clear hm hm2 hwd hwy hw
      go_wp2_with fail
      refine (HW.out _).mono ?_
      rintro e w1 ⟨rfl, rfl⟩
      go_wp2
      go_roundw
      case rel => exact ⟨m + 1, by omega, by omega, by go_num, HM.out, trivial⟩
      case measure => simp [intOf] <;> omega
    · by_cases hlt : m < (ba l).size
      · have hrun := fun h => run_step hlt h hm
        obtain ⟨y, hy⟩ : ∃ y : Nat, ((ba l)[m]'hlt).toNat = y := ⟨_, rfl⟩
        have hwy : wdI (y : Int) = false := by
          cases hw : wdI (y : Int) with
          | false => rfl
          | true =>
            have h := hrun (by unfold wdB; rw [hy]; exact hw)
            omega
        have hwd := fun W => wordy_any (y : Int) W
        unfold BoolP at hwd
        rw [hwy] at hwd
        have HW := Lib.hid hwd
        have m1 : (m : Int) < ((ba l).size : Int) := by omega
        have hv := HV.out
        rw [hRm] at HCUT htR
        have hRR := HR.out
        have HRR := Lib.hid (hRm.symm.trans HR.out.symm)
        by_cases hpm2 : p < m
        · have mp : (p : Int) < (m : Int) := by omega
          rw [if_pos (htR.2 hpm2)] at hv
          have HV2 := Lib.hid hv
          clear hm hv hrun hwy hwd hRR
          go_wp2_with fail
          refine (HW.out _).mono ?_
          rintro e w1 ⟨rfl, rfl⟩
          go_wp2
          refine bodyPost_ret (results_cell_row rfl _ _ w.heap.size _ _ _ _ rfl (heap_alloc_new w _) Try.underlying36 rfl (by kernel_rfl)) rfl ?_
          exact ⟨tok_eq 9 HV2.out HCUT.out HRR.out, (Below.refl _ _).alloc (Nat.le_refl _) _⟩
        · have hpe : m = p := by omega
          subst hpe
          have mp : ¬ (m : Int) < (m : Int) := by omega
          have ht0 : ¬ t ≠ [] := fun h => absurd (htR.1 h) (by omega)
          rw [if_neg ht0] at hv
          have hyc : y = c.toNat := by rw [← hy, hc hlt]
          subst hyc
          by_cases c1 : c = 123
          · subst c1
            rw [if_pos rfl] at hv
            have HV2 := Lib.hid hv
            clear hm hv hrun hwy hwd hRR htR
            go_wp2_with fail
            refine (HW.out _).mono ?_
            rintro e w1 ⟨rfl, rfl⟩
            go_wp2
            refine bodyPost_ret (results_cell_row rfl _ _ w.heap.size _ _ _ _ rfl (heap_alloc_new w _) Try.underlying36 rfl (by kernel_rfl)) rfl ?_
            exact ⟨tok_eq1 2 HV2.out rfl, (Below.refl _ _).alloc (Nat.le_refl _) _⟩
          have d1 : ((c.toNat : Int) == 123) = false := by
            simp
            intro h
            exact c1 (UInt8.toNat_inj.1 (by have e : (123 : UInt8).toNat = 123 := rfl
                                            omega))
          rw [if_neg c1] at hv
          by_cases c2 : c = 125
          · subst c2
            rw [if_pos rfl] at hv
            have HV2 := Lib.hid hv
            clear hm hv hrun hwy hwd hRR htR
            go_wp2_with fail
            refine (HW.out _).mono ?_
            rintro e w1 ⟨rfl, rfl⟩
            go_wp2
            refine bodyPost_ret (results_cell_row rfl _ _ w.heap.size _ _ _ _ rfl (heap_alloc_new w _) Try.underlying36 rfl (by kernel_rfl)) rfl ?_
            exact ⟨tok_eq1 3 HV2.out rfl, (Below.refl _ _).alloc (Nat.le_refl _) _⟩
          have d2 : ((c.toNat : Int) == 125) = false := by
            simp
            intro h
            exact c2 (UInt8.toNat_inj.1 (by have e : (125 : UInt8).toNat = 125 := rfl
                                            omega))
          rw [if_neg c2] at hv
          by_cases c3 : c = 44
          · subst c3
            rw [if_pos rfl] at hv
            have HV2 := Lib.hid hv
            clear hm hv hrun hwy hwd hRR htR
            go_wp2_with fail
            refine (HW.out _).mono ?_
            rintro e w1 ⟨rfl, rfl⟩
            go_wp2
            refine bodyPost_ret (results_cell_row rfl _ _ w.heap.size _ _ _ _ rfl (heap_alloc_new w _) Try.underlying36 rfl (by kernel_rfl)) rfl ?_
            exact ⟨tok_eq1 8 HV2.out rfl, (Below.refl _ _).alloc (Nat.le_refl _) _⟩
          have d3 : ((c.toNat : Int) == 44) = false := by
            simp
            intro h
            exact c3 (UInt8.toNat_inj.1 (by have e : (44 : UInt8).toNat = 44 := rfl
                                            omega))
          rw [if_neg c3] at hv
          have HV2 := Lib.hid hv
          clear hm hv hrun hwy hwd hRR htR
          go_wp2_with fail
          refine (HW.out _).mono ?_
          rintro e w1 ⟨rfl, rfl⟩
          go_wp2
          refine bodyPost_ret (results_cell_row rfl _ _ w.heap.size _ _ _ _ rfl (heap_alloc_new w _) Try.underlying36 rfl (by kernel_rfl)) rfl ?_
          exact ⟨tok_eq0 HV2.out, (Below.refl _ _).alloc (Nat.le_refl _) _⟩
      · have hms : m = l.length := by omega
        have hRp : p < R := by omega
        have hv := HV.out
        rw [if_pos (htR.2 hRp)] at hv
        have HV2 := Lib.hid hv
        have HRR := Lib.hid ((hRm.trans hms).symm.trans HR.out.symm)
        have hcut := HCUT.out
        rw [hRm, hms] at hcut
        have HCUT2 := Lib.hid hcut
        have mp : (p : Int) < (l.length : Int) := by omega
        subst hms
        clear hm hv hcut hlt
        go_wp2
        refine bodyPost_ret (results_cell_row rfl _ _ w.heap.size _ _ _ _ rfl (heap_alloc_new w _) Try.underlying36 rfl (by kernel_rfl)) rfl ?_
        exact ⟨tok_eq 9 HV2.out HCUT2.out HRR.out, (Below.refl _ _).alloc (Nat.le_refl _) _⟩
end Go.Proofs.Ytpjafemkdoeflaa
