/-
  calqueref23.Match, depth and Depth.
-/
import Derived.Test.YtgefbagojghmeaaDep
import Derived.Test.YtgefbagojghmeaaU8W14
namespace Go.Proofs.Ytgefbagojghmeaa
open Go.RowKit

theorem cls_init (c : Int) : cls c = 4 ↔ initB c = true := by
  unfold cls initB
  rw [decide_eq_true_iff]
  repeat' split
  all_goals omega
theorem cls_term (c : Int) : cls c = 5 ↔ (initB c = false ∧ termB c = true) := by
  unfold cls initB termB
  rw [decide_eq_true_iff, decide_eq_false_iff_not]
  repeat' split
  all_goals omega
def matchV (xs : List Int) (at_ : Nat) : Nat := match mt 0 (xs.drop at_) with
  | some j => at_ + j
  | none => xs.length
theorem drop_one {xs : List Int} {k : Nat} (hk : k < xs.length) : xs.drop k = xs.getD k 0 :: xs.drop (k + 1) := by
  rw [List.drop_eq_getElem_cons hk]
  simp [List.getD, hk]
def MatchP (xs : List Int) (at_ : Nat) (w : World) (e : Ending) (w' : World) : Prop := e = .returned (.int .i64 (matchV xs at_)) ∧ w = w'

set_option maxRecDepth 100000 in
set_option maxHeartbeats 1000000 in
theorem match_any (v : Value) (xs : List Int) (B : Nat) (at_ : Nat) (w : World) (hv : IsInts w B v xs) (hx : xs.length ≤ 1000000) (ha : at_ < xs.length) (hi : initB (xs.getD at_ 0) = true) : Calls Try.prog 53 #[v, .int .i64 at_] w (MatchP xs at_ w) := by
  unfold MatchP
  obtain ⟨ao, ca, rfl, hc⟩ := hv
  obtain ⟨n, hn⟩ : ∃ n, n = xs.length := ⟨_, rfl⟩
  rw [← hn] at hc hx ha
  rw [← hn]
  obtain ⟨M, hM⟩ : ∃ M, matchV xs at_ = M := ⟨_, rfl⟩
  rw [hM]
  unfold matchV at hM
  obtain ⟨r, hr⟩ : ∃ r, mt 0 (xs.drop at_) = r := ⟨_, rfl⟩
  rw [hr] at hM
  have HMM := Lib.hid hM
  clear hM
  have HA := Lib.hid hc
  have HN := Lib.hid hn
  have HR := Lib.hid hr
  have HI := Lib.hid hi
  clear hc hn hr hi
  go_enter Try.func53, Try.ntmps53
  go_wp2
  go_loopw [5, 6] (fun o i wr => ∃ k h : Nat, at_ ≤ k ∧ k ≤ n ∧ h ≤ n ∧ h ≤ k - at_ ∧ i = .int .i64 k ∧ o = .int .i64 h ∧ r = (mt h (xs.drop k)).map (· + (k - at_)) ∧ (1 ≤ h ∨ k = at_) ∧ w = wr) (fun _ i _ => n - (intOf i).toNat)
  case atStart => exact ⟨at_, 0, Nat.le_refl _, by omega, by omega, by omega, rfl, rfl, by rw [HR.out]; simp, .inr rfl, rfl⟩
  case round =>
    obtain ⟨k, h, hk0, hk, hh, hhk, rfl, rfl, hm, hor, rfl⟩ := hrel
    by_cases hlt : k < n
    · obtain ⟨b, o, rfl, _, hcl⟩ := HA.out (by have := HN.out; omega)
      have c1 := hcl k hlt
      have hd := drop_one (xs := xs) (k := k) (by have := HN.out; omega)
      obtain ⟨x, hx'⟩ : ∃ x, xs.getD k 0 = x := ⟨_, rfl⟩
      have hki : k = at_ → initB x = true := fun e => by rw [← hx', e]; exact HI.out
      rw [hx'] at c1 hd
      rw [hd, mt] at hm
      have k0 : (0 : Int) ≤ (k : Int) := by omega
      have k1 : (k : Int) < (n : Int) := by omega
      have h0 : (0 : Int) ≤ (h : Int) := by omega
      have ci := cls_init x
      have ct := cls_term x
      have hcz := class_any x w
      unfold ClassP at hcz
      obtain ⟨z, hz⟩ : ∃ z, cls x = z := ⟨_, rfl⟩
      rw [hz] at hcz ci ct
      have HC := Lib.hid hcz
      clear hcl hx' hcz hz hd
      by_cases h4 : z = 4
      · rw [if_pos (ci.1 h4)] at hm
        subst h4
        have HM := Lib.hid hm
        clear hm ci ct hki hor
        go_wp2_with fail
        refine HC.out.mono ?_
        rintro e w1 ⟨rfl, rfl⟩
        go_wp2_with fail
        refine HC.out.mono ?_
        rintro e w1 ⟨rfl, rfl⟩
        go_wp2
        go_roundw
        case rel =>
          refine ⟨k + 1, h + 1, by omega, by omega, by omega, by omega, by go_num, by go_num, ?_, .inl (by omega), trivial⟩
          rw [HM.out, Option.map_map]
          congr 1
          funext q
          show q + 1 + (k - at_) = q + (k + 1 - at_)
          omega
        case measure => simp [intOf]; omega
      · have hni : ¬ initB x = true := fun e => h4 (ci.2 e)
        rw [if_neg hni] at hm
        have hh1 : 1 ≤ h := by
          rcases hor with h | h
          · exact h
          · exact absurd (hki h) hni
        by_cases h5 : z = 5
        · rw [if_pos (ct.1 h5).2] at hm
          subst h5
          by_cases hq : h = 1
          · rw [if_pos (by omega)] at hm
            subst hq
            have HM := Lib.hid hm
            clear hm ci ct hki hor
            go_wp2_with fail
            refine HC.out.mono ?_
            rintro e w1 ⟨rfl, rfl⟩
            go_wp2_with fail
            refine HC.out.mono ?_
            rintro e w1 ⟨rfl, rfl⟩
            go_wp2
            go_ret
            have hmm := HMM.out
            rw [HM.out] at hmm
            have hmm : at_ + (0 + (k - at_)) = M := hmm
            refine ⟨ret_int ?_, rfl⟩
            omega
          · rw [if_neg (by omega)] at hm
            obtain ⟨q, rfl⟩ : ∃ q, h = q + 2 := ⟨h - 2, by omega⟩
            have HM := Lib.hid hm
            clear hm ci ct hki hor hq
            go_wp2_with fail
            refine HC.out.mono ?_
            rintro e w1 ⟨rfl, rfl⟩
            go_wp2_with fail
            refine HC.out.mono ?_
            rintro e w1 ⟨rfl, rfl⟩
            go_wp2
            go_roundw
            case rel =>
              refine ⟨k + 1, q + 1, by omega, by omega, by omega, by omega, by go_num, by go_num, ?_, .inl (by omega), trivial⟩
              rw [HM.out, Option.map_map]
              show Option.map _ (mt (q + 1) _) = _
              congr 1
              funext q
              show q + 1 + (k - at_) = q + (k + 1 - at_)
              omega
            case measure => simp [intOf]; omega
        · have hnt : ¬ termB x = true := fun e => h5 (ct.2 ⟨by simpa using hni, e⟩)
          rw [if_neg hnt] at hm
          have HM := Lib.hid hm
          clear hm ci ct hki hor hni hnt
          go_wp2_with fail
          refine HC.out.mono ?_
          rintro e w1 ⟨rfl, rfl⟩
          go_wp2_with fail
          refine HC.out.mono ?_
          rintro e w1 ⟨rfl, rfl⟩
          go_wp2
          go_roundw
          case rel =>
            refine ⟨k + 1, h, by omega, by omega, by omega, by omega, by go_num, rfl, ?_, .inl (by omega), trivial⟩
            rw [HM.out, Option.map_map]
            congr 1
            funext q
            show q + 1 + (k - at_) = q + (k + 1 - at_)
            omega
          case measure => simp [intOf]; omega
    · have hkn : k = n := by omega
      subst hkn
      have hd : xs.drop k = [] := List.drop_eq_nil_of_le (by have := HN.out; omega)
      rw [hd] at hm
      have hm : r = none := hm
      have hmm := HMM.out
      rw [hm] at hmm
      have hmm : xs.length = M := hmm
      have hkm : k = M := by rw [← hmm]; exact HN.out
      clear hd hor hmm hm
      go_wp2
      go_ret
      subst hkm
      exact ⟨rfl, rfl⟩
end Go.Proofs.Ytgefbagojghmeaa
