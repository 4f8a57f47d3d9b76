/-
  calqueref23.Matched: whether initiators and terminators match.
-/
import Derived.Test.YtgefbagojghmeaaRd2
namespace Go.Proofs.Ytgefbagojghmeaa
open Go.RowKit

def cnt : Nat → List Int → Bool
  | h, [] => decide (h = 0)
  | h, c :: l => if initB c then cnt (h + 1) l else if termB c then (if h = 0 then false else cnt (h - 1) l) else cnt h l
def MatchedP (xs : List Int) (w : World) (e : Ending) (w' : World) : Prop := e = .returned (.bool (cnt 0 xs)) ∧ Below w.heap.size w w'

set_option maxRecDepth 100000 in
set_option maxHeartbeats 1000000 in
theorem matched_any (s : ByteArray) (hs : s.size ≤ 10000) (w : World) : Calls Try.prog 26 #[.string s] w (MatchedP (ints (U8.els s.data.toList)) w) := by
  have hle := U8.els_len s.data.toList
  rw [U8.size_len] at hle
  have hli : (ints (U8.els s.data.toList)).length ≤ 10000 := by unfold ints; rw [List.length_map]; omega
  have hd := refdecode_any s (by omega)
  unfold DecP at hd
  unfold MatchedP
  obtain ⟨xs, hxs⟩ : ∃ xs, ints (U8.els s.data.toList) = xs := ⟨_, rfl⟩
  rw [hxs] at hd hli
  rw [hxs]
  obtain ⟨R, hR⟩ : ∃ R, cnt 0 xs = R := ⟨_, rfl⟩
  rw [hR]
  obtain ⟨n, hn⟩ : ∃ n, n = xs.length := ⟨_, rfl⟩
  rw [← hn] at hli
  have HN := Lib.hid hn
  have HD := Lib.hid hd
  have HR := Lib.hid hR
  clear hd hxs hn hR hle
  go_enter Try.func26, Try.ntmps26
  go_wp2_with fail
  refine (HD.out _).mono ?_
  rintro e w1 ⟨v, rfl, ho, hb1⟩
  have hii := IsInts.of_own ho
  obtain ⟨ao, ca, rfl, ha⟩ := hii
  rw [← HN.out] at ha
  rw [← HN.out]
  have HA := Lib.hid ha
  have HB1 := Lib.hid hb1
  clear ha hb1 ho
  go_wp2
  go_loopw [3, 5] (fun o i wr => ∃ k h : Nat, k ≤ n ∧ h ≤ k ∧ i = .int .i64 k ∧ o = .int .i64 h ∧ R = cnt h (xs.drop k) ∧ wr = w1) (fun _ i _ => n - (intOf i).toNat)
  case atStart => exact ⟨0, 0, Nat.zero_le _, Nat.le_refl _, rfl, rfl, HR.out.symm, rfl⟩
  case round =>
    obtain ⟨k, h, hk, hh, rfl, rfl, hm, rfl⟩ := hrel
    have h0 : (0 : Int) ≤ (h : Int) := by omega
    by_cases hlt : k < n
    · obtain ⟨b, o, rfl, _, hcl⟩ := HA.out (by omega)
      have c1 := hcl k hlt
      have hd := drop_one (xs := xs) (k := k) (by have := HN.out; omega)
      obtain ⟨x, hx'⟩ : ∃ x, xs.getD k 0 = x := ⟨_, rfl⟩
      rw [hx'] at c1 hd
      rw [hd, cnt] at hm
      have k0 : (0 : Int) ≤ (k : Int) := by omega
      have k1 : (k : Int) < (n : Int) := by omega
      have ci := cls_init x
      have ct := cls_term x
      have hcz := class_any x wr
      unfold ClassP at hcz
      obtain ⟨z, hz⟩ : ∃ z, cls x = z := ⟨_, rfl⟩
      rw [hz] at hcz ci ct
      have HC := Lib.hid hcz
      clear hcl hx' hcz hz hd
      by_cases h4 : z = 4
      · rw [if_pos (ci.1 h4)] at hm
        subst h4
        have HM := Lib.hid hm
        clear hm ci ct
        go_wp2_with fail
        refine HC.out.mono ?_
        rintro e w2 ⟨rfl, rfl⟩
        go_wp2
        go_roundw
        case rel => exact ⟨k + 1, h + 1, by omega, by omega, by go_num, by go_num, HM.out, trivial⟩
        case measure => simp [intOf]; omega
      · have hni : ¬ initB x = true := fun e => h4 (ci.2 e)
        rw [if_neg hni] at hm
        by_cases h5 : z = 5
        · rw [if_pos (ct.1 h5).2] at hm
          subst h5
          by_cases hq : h = 0
          · subst hq
            rw [if_pos rfl] at hm
            subst hm
            clear ci ct
            go_wp2_with fail
            refine HC.out.mono ?_
            rintro e w2 ⟨rfl, rfl⟩
            go_wp2
            go_ret
            exact ⟨rfl, HB1.out⟩
          · rw [if_neg hq] at hm
            obtain ⟨q, rfl⟩ : ∃ q, h = q + 1 := ⟨h - 1, by omega⟩
            have HM := Lib.hid hm
            clear hm ci ct hq
            go_wp2_with fail
            refine HC.out.mono ?_
            rintro e w2 ⟨rfl, rfl⟩
            go_wp2
            go_roundw
            case rel => exact ⟨k + 1, q, by omega, by omega, by go_num, by go_num, HM.out, trivial⟩
            case measure => simp [intOf]; omega
        · have hnt : ¬ termB x = true := fun e => h5 (ct.2 ⟨by simpa using hni, e⟩)
          rw [if_neg hnt] at hm
          have HM := Lib.hid hm
          clear hm ci ct hni hnt
          go_wp2_with fail
          refine HC.out.mono ?_
          rintro e w2 ⟨rfl, rfl⟩
          go_wp2
          go_roundw
          case rel => exact ⟨k + 1, h, by omega, by omega, by go_num, rfl, HM.out, trivial⟩
          case measure => simp [intOf]; omega
    · have hkn : k = n := by omega
      subst hkn
      have hd : xs.drop k = [] := List.drop_eq_nil_of_le (by have := HN.out; omega)
      rw [hd, cnt] at hm
      have HM := Lib.hid hm
      clear hd hm
      go_wp2
      go_ret
      refine ⟨?_, HB1.out⟩
      rw [HM.out]
      refine ret_bool ?_
      first
        | (rw [decide_eq_decide]; omega)
        | (by_cases hz : h = 0 <;> simp [hz]; done)
end Go.Proofs.Ytgefbagojghmeaa
