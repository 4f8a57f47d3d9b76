/-
  Names, of the program and of the reference.
-/
import Derived.Test.YtpjafemkdoeflaaTk3
namespace Go.Proofs.Ytpjafemkdoeflaa
open Go.RowKit

theorem all_step {p : UInt8 → Bool} {l : By} {k : Nat} (hk : k < l.length) (hp : p (l[k]'hk) = true) (h : l.all p = (l.drop k).all p) : l.all p = (l.drop (k + 1)).all p := by
  rw [h, List.drop_eq_getElem_cons hk, List.all_cons, hp, Bool.true_and]
theorem all_stop {p : UInt8 → Bool} {l : By} {k : Nat} (hk : k < l.length) (hp : p (l[k]'hk) = false) (h : l.all p = (l.drop k).all p) : l.all p = false := by
  rw [h, List.drop_eq_getElem_cons hk, List.all_cons, hp, Bool.false_and]
theorem all_end {p : UInt8 → Bool} {l : By} {k : Nat} (hk : l.length ≤ k) (h : l.all p = (l.drop k).all p) : l.all p = true := by
  rw [h, List.drop_eq_nil_of_le hk]
  rfl
theorem name_form (s : ByteArray) : nameB s.data.toList = (decide (1 ≤ s.size ∧ s.size ≤ 40) && loB (s.data.toList.getD 0 0) && s.data.toList.all inB) := by
  unfold nameB
  rw [size_len]

set_option maxRecDepth 100000 in
set_option maxHeartbeats 1000000 in
theorem name_any (s : ByteArray) (hs : s.size ≤ 1000000) (w : World) : Calls Try.prog 18 #[.string s] w (BoolP (nameB s.data.toList) w) := by
  unfold BoolP
  rw [name_form]
  by_cases h0 : s.size = 0
  · have he : s.toList.isEmpty = true := by
      rw [ByteArray.toList_eq]
      have : s.data.toList = [] := List.eq_nil_of_length_eq_zero (by rw [size_len]; exact h0)
      rw [this]
      rfl
    rw [decide_eq_false (by omega), Bool.false_and, Bool.false_and]
    go_enter Try.func18, Try.ntmps18
    go_wp2
    go_ret
    exact ⟨rfl, rfl⟩
  have he : s.toList.isEmpty = false := by
    rw [ByteArray.toList_eq]
    cases h : s.data.toList with
    | nil =>
      have := congrArg List.length h
      rw [size_len] at this
      exact absurd this h0
    | cons _ _ => rfl
  by_cases h40 : 40 < s.size
  · rw [decide_eq_false (by omega), Bool.false_and, Bool.false_and]
    have g1 : (40 : Int) < (s.size : Int) := by omega
    go_enter Try.func18, Try.ntmps18
    go_wp2
    go_ret
    exact ⟨rfl, rfl⟩
  rw [decide_eq_true (by omega), Bool.true_and]
  have hp : 0 < s.size := by omega
  have hl0 : s.data.toList.getD 0 0 = s[0]'hp := by
    have := drop_byte hp
    rw [List.drop_zero] at this
    rw [this]
    rfl
  obtain ⟨x, hx⟩ : ∃ x : Nat, (s[0]'hp).toNat = x := ⟨_, rfl⟩
  have hlo : loB (s.data.toList.getD 0 0) = loI x := by rw [hl0]; unfold loB; rw [hx]
  rw [hlo]
  have g1 : (s.size : Int) ≤ 40 := by omega
  have g0 : (0 : Int) < (s.size : Int) := by omega
  cases hb : loI (x : Int) with
  | false =>
    have hb := of_decide_eq_false hb
    clear hl0 hlo
    by_cases h97 : (x : Int) < 97
    · go_enter Try.func18, Try.ntmps18
      go_wp2
      go_ret
      exact ⟨rfl, rfl⟩
    · have h122 : (122 : Int) < (x : Int) := by omega
      go_enter Try.func18, Try.ntmps18
      go_wp2
      go_ret
      exact ⟨rfl, rfl⟩
  | true =>
    have hb := of_decide_eq_true hb
    obtain ⟨h97, h122⟩ := hb
    rw [Bool.true_and]
    obtain ⟨R, hR⟩ : ∃ R, s.data.toList.all inB = R := ⟨_, rfl⟩
    rw [hR]
    have HR := Lib.hid hR
    clear hl0 hlo hR
    go_enter Try.func18, Try.ntmps18
    go_wp2
    go_loopw [3, 23] (fun _ iv wr => ∃ k : Nat, k ≤ s.size ∧ iv = .int .i64 k ∧ s.data.toList.all inB = (s.data.toList.drop k).all inB ∧ w = wr) (fun _ iv _ => s.size - (intOf iv).toNat)
    case atStart => exact ⟨0, Nat.zero_le _, rfl, by rw [List.drop_zero], rfl⟩
    case round =>
      obtain ⟨k, hk, rfl, hm, rfl⟩ := hrel
      have k0 : (0 : Int) ≤ (k : Int) := by omega
      by_cases hlt : k < s.size
      · have k1 : (k : Int) < (s.size : Int) := by omega
        have hll : k < s.data.toList.length := by rw [size_len]; exact hlt
        have hst := all_step (p := inB) (l := s.data.toList) hll
        have hsp := all_stop (p := inB) (l := s.data.toList) hll
        rw [getI hll hlt] at hst hsp
        obtain ⟨y, hy⟩ : ∃ y : Nat, (s[k]'hlt).toNat = y := ⟨_, rfl⟩
        have hwd : inB (s[k]'hlt) = inI y := by unfold inB; rw [hy]
        rw [hwd] at hst hsp
        have hle := fun W => letter_any (y : Int) W
        unfold BoolP at hle
        cases hb : inI (y : Int) with
        | true =>
          have hst := hst hb hm
          have hb := of_decide_eq_true hb
          have HM := Lib.hid hst
          clear hst hsp hwd hm
          by_cases hl : ldI (y : Int) = true
          · rw [hl] at hle
            have HL := Lib.hid hle
            clear hl hle hb
            go_wp2_with fail
            refine (HL.out _).mono ?_
            rintro e w1 ⟨rfl, rfl⟩
            go_wp2
            go_roundw
            case rel => exact ⟨k + 1, by omega, by go_num, HM.out, trivial⟩
            case measure => simp [intOf] <;> omega
          · have hl2 : ldI (y : Int) = false := by simpa using hl
            rw [hl2] at hle
            have hl3 := of_decide_eq_false hl2
            have HL := Lib.hid hle
            have hx4 : y = 95 ∨ y = 45 := by omega
            clear hl hl2 hl3 hle hb
            rcases hx4 with rfl | rfl
            all_goals
              go_wp2_with fail
              refine (HL.out _).mono ?_
              rintro e w1 ⟨rfl, rfl⟩
              go_wp2
              go_roundw
              case rel => exact ⟨k + 1, by omega, by go_num, HM.out, trivial⟩
              case measure => simp [intOf] <;> omega
        | false =>
          have hsp := hsp hb hm
          rw [HR.out] at hsp
          have hb := of_decide_eq_false hb
          have hl2 : ldI (y : Int) = false := decide_eq_false (by omega)
          rw [hl2] at hle
          have HL := Lib.hid hle
          have HM := Lib.hid hsp
          have d1 : ((y : Int) != 95) = true := by simp; omega
          have d2 : ((y : Int) != 45) = true := by simp; omega
          clear hst hsp hwd hm hl2 hle hb
          go_wp2_with fail
          refine (HL.out _).mono ?_
          rintro e w1 ⟨rfl, rfl⟩
          go_wp2
          go_ret
          exact ⟨by rw [HM.out]; rfl, rfl⟩
      · have hm2 := all_end (p := inB) (by rw [size_len]; omega) hm
        rw [HR.out] at hm2
        have k1 : (s.size : Int) ≤ (k : Int) := by omega
        have hks : k = s.size := by omega
        clear hm
        go_wp2
        go_ret
        exact ⟨by rw [hm2]; rfl, rfl⟩

set_option maxRecDepth 100000 in
set_option maxHeartbeats 1000000 in
theorem rname_any (s : ByteArray) (hs : s.size ≤ 1000000) (w : World) : Calls Try.prog 19 #[.string s] w (BoolP (nameB s.data.toList) w) := by
  unfold BoolP
  obtain ⟨R, hR⟩ : ∃ R, nameB s.data.toList = R := ⟨_, rfl⟩
  rw [hR]
  rw [name_form] at hR
  have HR := Lib.hid hR
  clear hR
  go_enter Try.func19, Try.ntmps19
  go_wp2
  go_loopw [3] (fun iv wr => ∃ k : Nat, k ≤ s.size ∧ iv = .int .i64 k ∧ s.data.toList.all inB = (s.data.toList.drop k).all inB ∧ w = wr) (fun iv _ => s.size - (intOf iv).toNat)
  case atStart => exact ⟨0, Nat.zero_le _, rfl, by rw [List.drop_zero], rfl⟩
  case round =>
    obtain ⟨k, hk, rfl, hm, rfl⟩ := hrel
    have k0 : (0 : Int) ≤ (k : Int) := by omega
    by_cases hlt : k < s.size
    · have k1 : (k : Int) < (s.size : Int) := by omega
      have hll : k < s.data.toList.length := by rw [size_len]; exact hlt
      have hst := all_step (p := inB) (l := s.data.toList) hll
      have hsp := all_stop (p := inB) (l := s.data.toList) hll
      rw [getI hll hlt] at hst hsp
      obtain ⟨y, hy⟩ : ∃ y : Nat, (s[k]'hlt).toNat = y := ⟨_, rfl⟩
      have hwd : inB (s[k]'hlt) = inI y := by unfold inB; rw [hy]
      rw [hwd] at hst hsp
      have hle := fun W => inner_any (y : Int) W
      unfold BoolP at hle
      cases hb : inI (y : Int) with
      | true =>
        have hst := hst hb hm
        rw [hb] at hle
        have HM := Lib.hid hst
        have HL := Lib.hid hle
        clear hst hsp hwd hm hle hb
        go_wp2_with fail
        refine (HL.out _).mono ?_
        rintro e w1 ⟨rfl, rfl⟩
        go_wp2
        go_roundw
        case rel => exact ⟨k + 1, by omega, by go_num, HM.out, trivial⟩
        case measure => simp [intOf] <;> omega
      | false =>
        have hsp := hsp hb hm
        have hR := HR.out
        rw [hsp, Bool.and_false] at hR
        rw [hb] at hle
        have HL := Lib.hid hle
        have HM := Lib.hid hR
        clear hR
        clear hst hsp hwd hm hle hb
        go_wp2_with fail
        refine (HL.out _).mono ?_
        rintro e w1 ⟨rfl, rfl⟩
        go_wp2
        go_ret
        exact ⟨by rw [← HM.out]; rfl, rfl⟩
    · have hm2 := all_end (p := inB) (by rw [size_len]; omega) hm
      have hR := HR.out
      rw [hm2, Bool.and_true] at hR
      have k1 : (s.size : Int) ≤ (k : Int) := by omega
      have HM := Lib.hid hR
      clear hm hm2 hR
      by_cases h1 : 1 ≤ s.size
      · by_cases h40 : s.size ≤ 40
        · have hp : 0 < s.size := by omega
          have hl0 : s.data.toList.getD 0 0 = s[0]'hp := by
            have := drop_byte hp
            rw [List.drop_zero] at this
            rw [this]
            rfl
          obtain ⟨x, hx⟩ : ∃ x : Nat, (s[0]'hp).toNat = x := ⟨_, rfl⟩
          have hlo : loB (s.data.toList.getD 0 0) = loI x := by rw [hl0]; unfold loB; rw [hx]
          have hle := fun W => lower_any (x : Int) W
          unfold BoolP at hle
          have hR := HM.out
          rw [hlo, decide_eq_true (by omega), Bool.true_and] at hR
          rw [hR] at hle
          have HL := Lib.hid hle
          clear hR
          have g1 : (s.size : Int) ≤ 40 := by omega
          have g0 : (1 : Int) ≤ (s.size : Int) := by omega
          clear hl0 hlo hle
          go_wp2_with fail
          refine (HL.out _).mono ?_
          rintro e w1 ⟨rfl, rfl⟩
          go_wp2
          go_ret
          exact ⟨rfl, rfl⟩
        · have g1 : (40 : Int) < (s.size : Int) := by omega
          have g0 : (1 : Int) ≤ (s.size : Int) := by omega
          have hR := HM.out
          rw [decide_eq_false (by omega), Bool.false_and] at hR
          have HR2 := Lib.hid hR
          clear hR
          go_wp2
          go_ret
          exact ⟨by rw [← HR2.out]; rfl, rfl⟩
      · have g0 : (s.size : Int) < 1 := by omega
        have hR := HM.out
        rw [decide_eq_false (by omega), Bool.false_and] at hR
        have HR2 := Lib.hid hR
        clear hR
        go_wp2
        go_ret
        exact ⟨by rw [← HR2.out]; rfl, rfl⟩
end Go.Proofs.Ytpjafemkdoeflaa
