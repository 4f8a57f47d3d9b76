/-
  Loops over bytes: texts, words, names.
-/
import Derived.Test.YtpjafemkdoeflaaTk2
namespace Go.Proofs.Ytpjafemkdoeflaa
open Go.RowKit

theorem size_len (s : ByteArray) : s.data.toList.length = s.size := by rw [Array.length_toList]; rfl
theorem drop_byte {s : ByteArray} {k : Nat} (h : k < s.size) : s.data.toList.drop k = s[k]'h :: s.data.toList.drop (k + 1) := by
  have h2 : k < s.data.toList.length := by rw [size_len]; exact h
  rw [List.drop_eq_getElem_cons h2]
  congr 1
def NumP (n : Nat) (w : World) (e : Ending) (w' : World) : Prop := e = .returned (.int .i64 n) ∧ w = w'

set_option maxRecDepth 100000 in
set_option maxHeartbeats 1000000 in
theorem plain_any (s : ByteArray) (hs : s.size ≤ 1000000) (w : World) : Calls Try.prog 23 #[.string s] w (NumP (plainN s.data.toList) w) := by
  unfold NumP
  have hle := plainN_le s.data.toList
  rw [size_len] at hle
  obtain ⟨R, hR⟩ : ∃ R, plainN s.data.toList = R := ⟨_, rfl⟩
  rw [hR] at hle ⊢
  have HR := Lib.hid hR
  clear hR
  go_enter Try.func23, Try.ntmps23
  go_wp2
  go_loopw [3] (fun iv wr => ∃ k : Nat, k ≤ s.size ∧ iv = .int .i64 k ∧ R = k + plainN (s.data.toList.drop k) ∧ w = wr) (fun iv _ => s.size - (intOf iv).toNat)
  case atStart => exact ⟨0, Nat.zero_le _, rfl, by rw [Nat.zero_add]; exact HR.out.symm, rfl⟩
  case round =>
    obtain ⟨k, hk, rfl, hm, rfl⟩ := hrel
    have k0 : (0 : Int) ≤ (k : Int) := by omega
    by_cases hlt : k < s.size
    · have k1 : (k : Int) < (s.size : Int) := by omega
      rw [drop_byte hlt] at hm
      have hw := plainN_ways (s[k]'hlt) (s.data.toList.drop (k + 1))
      obtain ⟨x, hx⟩ : ∃ x : Nat, (s[k]'hlt).toNat = x := ⟨_, rfl⟩
      have hsb : spB (s[k]'hlt) = spI x := by unfold spB; rw [hx]
      rcases hw with ⟨a, h2⟩ | ⟨hc, d, r, hd, a, h2⟩ | ⟨a, hc, h2⟩
      · rw [h2] at hm
        rw [hsb] at a
        have hsp := fun W => special_any (x : Int) W
        unfold BoolP at hsp
        rw [a] at hsp
        have HS := Lib.hid hsp
        have HM := Lib.hid hm
        clear a h2 hm hsp hsb
        go_wp2_with fail
        refine (HS.out _).mono ?_
        rintro e w1 ⟨rfl, rfl⟩
        go_wp2
        go_roundw
        case rel => exact ⟨k + 1, by omega, by go_num, by rw [HM.out]; omega, trivial⟩
        case measure => simp [intOf] <;> omega
      · rw [h2] at hm
        have hk2 : k + 1 < s.size := by
          have := congrArg List.length hd
          rw [List.length_drop, size_len, List.length_cons] at this
          omega
        rw [drop_byte hk2] at hd
        injection hd with hd1 hd2
        rw [← hd2] at hm
        have HM := Lib.hid hm
        have hx92 : x = 92 := by rw [← hx, hc]; rfl
        subst hx92
        obtain ⟨y, hy⟩ : ∃ y : Nat, (s[k + 1]'hk2).toNat = y := ⟨_, rfl⟩
        rw [← hd1] at a
        unfold spB at a
        rw [hy] at a
        have hsp := fun W => special_any (92 : Int) W
        have hsp2 := fun W => special_any (y : Int) W
        unfold BoolP at hsp hsp2
        rw [a] at hsp2
        rw [show spI 92 = true from rfl] at hsp
        have HS := Lib.hid hsp
        have HS2 := Lib.hid hsp2
        have k2 : (k : Int) + 1 < (s.size : Int) := by omega
        have e1 : ((k : Int) + 1 == (s.size : Int)) = false := by simp; omega
        clear a h2 hm hd1 hd2 hc hsp2 hsp hsb
        go_wp2_with fail
        refine (HS.out _).mono ?_
        rintro e w1 ⟨rfl, rfl⟩
        go_wp2_with fail
        refine (HS2.out _).mono ?_
        rintro e w1 ⟨rfl, rfl⟩
        go_wp2
        go_roundw
        case rel => exact ⟨k + 2, by omega, by go_num, by have := HM.out; show R = k + 2 + plainN (s.data.toList.drop (k + 1 + 1)); omega, trivial⟩
        case measure => simp [intOf] <;> omega
      · rw [h2] at hm
        have hmk : R = k := hm
        rw [hsb] at a
        have hsp := fun W => special_any (x : Int) W
        unfold BoolP at hsp
        rw [a] at hsp
        have HS := Lib.hid hsp
        have HM := Lib.hid hmk
        by_cases h92 : x = 92
        · subst h92
          have h92 : s[k]'hlt = 92 := UInt8.toNat_inj.1 (by rw [hx]; rfl)
          rcases hc with hc | hc | ⟨d, r, hd, hd0⟩
          · exact absurd h92 hc
          · have hk2 : k + 1 = s.size := by
              have := congrArg List.length hc
              rw [List.length_drop, size_len, List.length_nil] at this
              omega
            have e1 : ((k : Int) + 1 == (s.size : Int)) = true := by simp; omega
            clear a h2 hm hsp hsb hmk h92 hc
            go_wp2_with fail
            refine (HS.out _).mono ?_
            rintro e w1 ⟨rfl, rfl⟩
            go_wp2
            go_ret
            exact ⟨by rw [HM.out]; rfl, rfl⟩
          · have hk2 : k + 1 < s.size := by
              have := congrArg List.length hd
              rw [List.length_drop, size_len, List.length_cons] at this
              omega
            rw [drop_byte hk2] at hd
            injection hd with hd1 hd2
            obtain ⟨y, hy⟩ : ∃ y : Nat, (s[k + 1]'hk2).toNat = y := ⟨_, rfl⟩
            rw [← hd1] at hd0
            unfold spB at hd0
            rw [hy] at hd0
            have hsp2 := fun W => special_any (y : Int) W
            unfold BoolP at hsp2
            rw [hd0] at hsp2
            have HS2 := Lib.hid hsp2
            have k2 : (k : Int) + 1 < (s.size : Int) := by omega
            have e1 : ((k : Int) + 1 == (s.size : Int)) = false := by simp; omega
            clear a h2 hm hd1 hd2 hsp2 hsp hsb hmk h92 hd0
            go_wp2_with fail
            refine (HS.out _).mono ?_
            rintro e w1 ⟨rfl, rfl⟩
            go_wp2_with fail
            refine (HS2.out _).mono ?_
            rintro e w1 ⟨rfl, rfl⟩
            go_wp2
            go_ret
            exact ⟨by rw [HM.out]; rfl, rfl⟩
        · have e1 : ((x : Int) != 92) = true := by simp; omega
          clear a h2 hm hsp hsb hmk hc
          go_wp2_with fail
          refine (HS.out _).mono ?_
          rintro e w1 ⟨rfl, rfl⟩
          go_wp2
          go_ret
          exact ⟨by rw [HM.out]; rfl, rfl⟩
    · rw [List.drop_eq_nil_of_le (by rw [size_len]; omega)] at hm
      have hm2 : R = k := hm
      have k1 : (s.size : Int) ≤ (k : Int) := by omega
      have hks : k = s.size := by omega
      clear hm
      go_wp2
      go_ret
      exact ⟨by rw [hm2, hks]; rfl, rfl⟩
set_option maxRecDepth 100000 in
set_option maxHeartbeats 1000000 in
theorem text_any (s : ByteArray) (hs : s.size ≤ 1000000) (p : Nat) (hp : p ≤ s.size) (w : World) : Calls Try.prog 34 #[.string s, .int .i64 p] w (NumP (p + plainN (s.data.toList.drop p)) w) := by
  unfold NumP
  have hle := plainN_le (s.data.toList.drop p)
  rw [List.length_drop, size_len] at hle
  obtain ⟨R, hR⟩ : ∃ R, p + plainN (s.data.toList.drop p) = R := ⟨_, rfl⟩
  rw [hR]
  have HR := Lib.hid hR
  clear hR hle
  go_enter Try.func34, Try.ntmps34
  go_wp2
  go_loopw [1] (fun iv wr => ∃ k : Nat, k ≤ s.size ∧ iv = .int .i64 k ∧ R = k + plainN (s.data.toList.drop k) ∧ w = wr) (fun iv _ => s.size - (intOf iv).toNat)
  case atStart => exact ⟨p, hp, rfl, HR.out.symm, rfl⟩
  case round =>
    obtain ⟨k, hk, rfl, hm, rfl⟩ := hrel
    have k0 : (0 : Int) ≤ (k : Int) := by omega
    by_cases hlt : k < s.size
    · have k1 : (k : Int) < (s.size : Int) := by omega
      rw [drop_byte hlt] at hm
      have hw := plainN_ways (s[k]'hlt) (s.data.toList.drop (k + 1))
      obtain ⟨x, hx⟩ : ∃ x : Nat, (s[k]'hlt).toNat = x := ⟨_, rfl⟩
      have hsb : spB (s[k]'hlt) = spI x := by unfold spB; rw [hx]
      have hsp := fun W => rspecial_any (x : Int) W
      unfold BoolP at hsp
      rcases hw with ⟨a, h2⟩ | ⟨hc, d, r, hd, a, h2⟩ | ⟨a, hc, h2⟩
      · rw [h2] at hm
        rw [hsb] at a
        have e1 : ((x : Int) == 92) = false := by
          have := of_decide_eq_false a
          simp
          omega
        rw [a] at hsp
        have HS := Lib.hid hsp
        have HM := Lib.hid hm
        clear a h2 hm hsp hsb
        go_wp2_with fail
        refine (HS.out _).mono ?_
        rintro e w1 ⟨rfl, rfl⟩
        go_wp2
        go_roundw
        case rel => exact ⟨k + 1, by omega, by go_num, by rw [HM.out]; omega, trivial⟩
        case measure => simp [intOf] <;> omega
      · rw [h2] at hm
        have hk2 : k + 1 < s.size := by
          have := congrArg List.length hd
          rw [List.length_drop, size_len, List.length_cons] at this
          omega
        rw [drop_byte hk2] at hd
        injection hd with hd1 hd2
        rw [← hd2] at hm
        have HM := Lib.hid hm
        have hx92 : x = 92 := by rw [← hx, hc]; rfl
        subst hx92
        obtain ⟨y, hy⟩ : ∃ y : Nat, (s[k + 1]'hk2).toNat = y := ⟨_, rfl⟩
        rw [← hd1] at a
        unfold spB at a
        rw [hy] at a
        have hsp2 := fun W => rspecial_any (y : Int) W
        unfold BoolP at hsp2
        rw [a] at hsp2
        have HS2 := Lib.hid hsp2
        have k2 : (k : Int) + 1 < (s.size : Int) := by omega
        clear a h2 hm hd1 hd2 hc hsp2 hsp hsb
        go_wp2_with fail
        refine (HS2.out _).mono ?_
        rintro e w1 ⟨rfl, rfl⟩
        go_wp2
        go_roundw
        case rel => exact ⟨k + 2, by omega, by go_num, by have := HM.out; show R = k + 2 + plainN (s.data.toList.drop (k + 1 + 1)); omega, trivial⟩
        case measure => simp [intOf] <;> omega
      · rw [h2] at hm
        have hmk : R = k := hm
        rw [hsb] at a
        rw [a] at hsp
        have HS := Lib.hid hsp
        have HM := Lib.hid hmk
        by_cases h92 : x = 92
        · subst h92
          have h92 : s[k]'hlt = 92 := UInt8.toNat_inj.1 (by rw [hx]; rfl)
          rcases hc with hc | hc | ⟨d, r, hd, hd0⟩
          · exact absurd h92 hc
          · have hk2 : k + 1 = s.size := by
              have := congrArg List.length hc
              rw [List.length_drop, size_len, List.length_nil] at this
              omega
            have e1 : ¬ (k : Int) + 1 < (s.size : Int) := by omega
            clear a h2 hm hsp hsb hmk h92 hc
            go_wp2_with fail
            refine (HS.out _).mono ?_
            rintro e w1 ⟨rfl, rfl⟩
            go_wp2
            go_ret
            exact ⟨by rw [HM.out]; rfl, rfl⟩
          · have hk2 : k + 1 < s.size := by
              have := congrArg List.length hd
              rw [List.length_drop, size_len, List.length_cons] at this
              omega
            rw [drop_byte hk2] at hd
            injection hd with hd1 hd2
            obtain ⟨y, hy⟩ : ∃ y : Nat, (s[k + 1]'hk2).toNat = y := ⟨_, rfl⟩
            rw [← hd1] at hd0
            unfold spB at hd0
            rw [hy] at hd0
            have hsp2 := fun W => rspecial_any (y : Int) W
            unfold BoolP at hsp2
            rw [hd0] at hsp2
            have HS2 := Lib.hid hsp2
            have k2 : (k : Int) + 1 < (s.size : Int) := by omega
            clear a h2 hm hd1 hd2 hsp2 hsp hsb hmk h92 hd0
            go_wp2_with fail
            refine (HS2.out _).mono ?_
            rintro e w1 ⟨rfl, rfl⟩
            go_wp2_with fail
            refine (HS.out _).mono ?_
            rintro e w1 ⟨rfl, rfl⟩
            go_wp2
            go_ret
            exact ⟨by rw [HM.out]; rfl, rfl⟩
        · have e1 : ((x : Int) == 92) = false := by simp; omega
          clear a h2 hm hsp hsb hmk hc
          go_wp2_with fail
          refine (HS.out _).mono ?_
          rintro e w1 ⟨rfl, rfl⟩
          go_wp2
          go_ret
          exact ⟨by rw [HM.out]; rfl, rfl⟩
    · rw [List.drop_eq_nil_of_le (by rw [size_len]; omega)] at hm
      have hm2 : R = k := hm
      have k1 : (s.size : Int) ≤ (k : Int) := by omega
      have hks : k = s.size := by omega
      clear hm
      go_wp2
      go_ret
      exact ⟨by rw [hm2, hks]; rfl, rfl⟩
/-- The first bytes of a list with a property. -/
theorem span_step {p : UInt8 → Bool} {l : By} {k : Nat} (hk : k < l.length) (hp : p (l[k]'hk) = true) (h : (l.takeWhile p).length = k + ((l.drop k).takeWhile p).length) : (l.takeWhile p).length = (k + 1) + ((l.drop (k + 1)).takeWhile p).length := by
  rw [h, List.drop_eq_getElem_cons hk, List.takeWhile_cons_of_pos hp, List.length_cons]
  omega
theorem span_stop {p : UInt8 → Bool} {l : By} {k : Nat} (hk : k < l.length) (hp : p (l[k]'hk) = false) (h : (l.takeWhile p).length = k + ((l.drop k).takeWhile p).length) : (l.takeWhile p).length = k := by
  rw [h, List.drop_eq_getElem_cons hk, List.takeWhile_cons_of_neg (by rw [hp]; decide)]
  rfl
theorem span_end {p : UInt8 → Bool} {l : By} {k : Nat} (hk : l.length ≤ k) (h : (l.takeWhile p).length = k + ((l.drop k).takeWhile p).length) : (l.takeWhile p).length = k := by
  rw [h, List.drop_eq_nil_of_le hk]
  rfl
theorem getI {s : ByteArray} {k : Nat} (hk : k < s.data.toList.length) (hk2 : k < s.size) : s.data.toList[k]'hk = s[k]'hk2 := by
  have := drop_byte hk2
  rw [List.drop_eq_getElem_cons hk] at this
  injection this

set_option maxRecDepth 100000 in
set_option maxHeartbeats 1000000 in
theorem word_any (s : ByteArray) (hs : s.size ≤ 1000000) (w : World) : Calls Try.prog 31 #[.string s] w (NumP (s.data.toList.takeWhile wdB).length w) := by
  unfold NumP
  obtain ⟨R, hR⟩ : ∃ R, (s.data.toList.takeWhile wdB).length = R := ⟨_, rfl⟩
  rw [hR]
  have HR := Lib.hid hR
  clear hR
  go_enter Try.func31, Try.ntmps31
  go_wp2
  go_loopw [3, 6] (fun _ iv wr => ∃ k : Nat, k ≤ s.size ∧ iv = .int .i64 k ∧ (s.data.toList.takeWhile wdB).length = k + ((s.data.toList.drop k).takeWhile wdB).length ∧ w = wr) (fun _ iv _ => s.size - (intOf iv).toNat)
  case atStart => exact ⟨0, Nat.zero_le _, rfl, by rw [List.drop_zero, Nat.zero_add], rfl⟩
  case round =>
    obtain ⟨k, hk, rfl, hm, rfl⟩ := hrel
    have k0 : (0 : Int) ≤ (k : Int) := by omega
    by_cases hlt : k < s.size
    · have k1 : (k : Int) < (s.size : Int) := by omega
      have hll : k < s.data.toList.length := by rw [size_len]; exact hlt
      have hst := span_step (p := wdB) (l := s.data.toList) hll
      have hsp := span_stop (p := wdB) (l := s.data.toList) hll
      rw [getI hll hlt] at hst hsp
      obtain ⟨x, hx⟩ : ∃ x : Nat, (s[k]'hlt).toNat = x := ⟨_, rfl⟩
      have hwd : wdB (s[k]'hlt) = wdI x := by unfold wdB; rw [hx]
      rw [hwd] at hst hsp
      have hle := fun W => letter_any (x : Int) W
      unfold BoolP at hle
      cases hb : wdI (x : Int) with
      | true =>
        have hst := hst hb hm
        have hb := of_decide_eq_true hb
        have HM := Lib.hid hst
        clear hst hsp hwd hm
        by_cases hl : ldI (x : Int) = true
        · rw [hl] at hle
          have HL := Lib.hid hle
          clear hl hle hb
          go_wp2_with fail
          refine (HL.out _).mono ?_
          rintro e w1 ⟨rfl, rfl⟩
          go_wp2
          go_roundw
          case rel => exact ⟨k + 1, by omega, by go_num, HM.out, trivial⟩
          case measure => simp [intOf] <;> omega
        · have hl2 : ldI (x : Int) = false := by simpa using hl
          rw [hl2] at hle
          have hl3 := of_decide_eq_false hl2
          have HL := Lib.hid hle
          have hx4 : x = 95 ∨ x = 45 ∨ x = 46 ∨ x = 61 := by omega
          clear hl hl2 hl3 hle hb
          rcases hx4 with rfl | rfl | rfl | rfl
          all_goals
            go_wp2_with fail
            refine (HL.out _).mono ?_
            rintro e w1 ⟨rfl, rfl⟩
            go_wp2
            go_roundw
            case rel => exact ⟨k + 1, by omega, by go_num, HM.out, trivial⟩
            case measure => simp [intOf] <;> omega
      | false =>
        have hsp := hsp hb hm
        rw [HR.out] at hsp
        have hb := of_decide_eq_false hb
        have hl2 : ldI (x : Int) = false := decide_eq_false (by omega)
        rw [hl2] at hle
        have HL := Lib.hid hle
        have HM := Lib.hid hsp
        have d1 : ((x : Int) != 95) = true := by simp; omega
        have d2 : ((x : Int) != 45) = true := by simp; omega
        have d3 : ((x : Int) != 46) = true := by simp; omega
        have d4 : ((x : Int) != 61) = true := by simp; omega
        clear hst hsp hwd hm hl2 hle hb
        go_wp2_with fail
        refine (HL.out _).mono ?_
        rintro e w1 ⟨rfl, rfl⟩
        go_wp2
        go_ret
        exact ⟨by rw [HM.out]; rfl, rfl⟩
    · have hm2 := span_end (p := wdB) (by rw [size_len]; omega) hm
      rw [HR.out] at hm2
      have k1 : (s.size : Int) ≤ (k : Int) := by omega
      have hks : k = s.size := by omega
      clear hm
      go_wp2
      go_ret
      exact ⟨by rw [hm2, hks]; rfl, rfl⟩
end Go.Proofs.Ytpjafemkdoeflaa
