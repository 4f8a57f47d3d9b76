/-
  decide.holds.
-/
import Derived.Test.YtbkcmgjmhglghaaGreatDoorWb1
namespace Go.Proofs.YtbkcmgjmhglghaaGreatDoor
open Go.RowKit

/-- The function g, with what it holds bound, answers f for the numbers below m. -/
def Tells (g : Nat) (lb : Array Value) (f : Nat → Bool) (m : Nat) (w : World) : Prop :=
  ∀ (W : World) (i : Nat), Below w.heap.size w W → i < m → Calls Tryz.prog g (#[.int .i64 i] ++ lb) W fun e w' => e = .returned (.bool (f i)) ∧ Below w.heap.size w w'
theorem holdsAt_drop {c : Cnd} {i : Nat} {l : List Rel} (h : c[i]? = some l) (a : Nat) (f : Nat → Bool) : holdsAt (c.drop i) a f = (allAt l.length a f || holdsAt (c.drop (i + 1)) (a + l.length) f) := by
  obtain ⟨hi, he⟩ := List.getElem?_eq_some_iff.1 h
  rw [List.drop_eq_getElem_cons hi, he]
  rfl
theorem total_drop {c : Cnd} {i : Nat} {l : List Rel} (h : c[i]? = some l) : total (c.drop i) = l.length + total (c.drop (i + 1)) := by
  obtain ⟨hi, he⟩ := List.getElem?_eq_some_iff.1 h
  rw [List.drop_eq_getElem_cons hi, he]
  simp [total]
theorem allAt_step (k a : Nat) (f : Nat → Bool) (h : 0 < k) : allAt k a f = (f a && allAt (k - 1) (a + 1) f) := by
  cases k with
  | zero => omega
  | succ k => rfl
set_option maxRecDepth 100000 in
set_option maxHeartbeats 1600000 in
theorem dholds_any (v : Value) (c : Cnd) (B : Nat) (w : World) (hv : IsCond w B v c) (hB : B ≤ w.heap.size) (hc : condB c = true) (g : Nat) (lb : Array Value) (eg : ∀ args W, (callFunc g args).run Tryz.prog W = .ok (.enter g args) W) (f : Nat → Bool) (hf : Tells g lb f (total c) w) :
    Calls Tryz.prog 31 #[v, .func (.func g) #[] lb] w fun e w' => e = .returned (.bool (holdsAt c 0 f)) ∧ Below w.heap.size w w' := by
  obtain ⟨_, hl6, ht, hl⟩ := condB_parts hc
  obtain ⟨ao, cap, rfl, hcl⟩ := hv
  obtain ⟨n, hn⟩ : ∃ n, n = c.length := ⟨_, rfl⟩
  rw [← hn] at hcl hl6
  rw [← hn]
  obtain ⟨t, htt⟩ : ∃ t, t = total c := ⟨_, rfl⟩
  rw [← htt] at hf ht
  obtain ⟨R, hR⟩ : ∃ R, R = holdsAt c 0 f := ⟨_, rfl⟩
  rw [← hR]
  have HR := Lib.hid hR
  have HC := Lib.hid hcl
  have HN := Lib.hid hn
  have HL := Lib.hid hl
  have HT := Lib.hid ht
  have HTT := Lib.hid htt
  have HCB := Lib.hid hB
  have HF := Lib.hid hf
  clear hcl hn hl hc ht hB hf hR htt
  go_enter Tryz.func31, Tryz.ntmps31
  go_wp2
  go_loopw [5, 6, 12] (fun av fv iv wr => ∃ (i a : Nat) (fb : Bool), i ≤ n ∧ iv = .int .i64 i ∧ av = .int .i64 a ∧ fv = .bool fb ∧ R = (fb || holdsAt (c.drop i) a f) ∧ a + total (c.drop i) = t ∧ Below w.heap.size w wr) (fun _ _ iv _ => n - (intOf iv).toNat)
  case atStart => exact ⟨0, 0, false, Nat.zero_le _, rfl, rfl, rfl, by rw [HR.out]; simp, by rw [HTT.out]; simp, Below.refl _ _⟩
  case round =>
    obtain ⟨i, a, fb, hi, rfl, rfl, rfl, hr, hat, hb⟩ := hrel
    have HBW := Lib.hid hb
    have i0 : (0 : Int) ≤ (i : Int) := by omega
    by_cases hlt : i < n
    · have i1 : (i : Int) < (n : Int) := by omega
      have hil : i < c.length := by have := HN.out; omega
      obtain ⟨l, hx'⟩ : ∃ l, c[i]? = some l := ⟨_, List.getElem?_eq_getElem hil⟩
      obtain ⟨b, o, rfl, hbB, hcl⟩ := HC.out (by omega)
      obtain ⟨rv', d0, hrv⟩ := hcl i l hx'
      have e0 := (hb.cell (p := ⟨b, o + i, none⟩) (by show b < w.heap.size; have := HCB.out; omega)).trans d0
      obtain ⟨l0, l6⟩ := HL.out i l hx'
      obtain ⟨ao2, cap2, rfl, _⟩ := hrv
      rw [holdsAt_drop hx'] at hr
      rw [total_drop hx'] at hat
      obtain ⟨m, hm⟩ : ∃ m, m = l.length := ⟨_, rfl⟩
      rw [← hm] at l0 l6 e0 hr hat
      obtain ⟨T', hT'⟩ : ∃ T', T' = total (c.drop (i + 1)) := ⟨_, rfl⟩
      rw [← hT'] at hat
      have HAT := Lib.hid hat
      have HT' := Lib.hid hT'
      have HRR := Lib.hid hr
      clear hcl d0 hx' hb hm hT' hr hat
      have ht6 := HT.out
      have hat6 := HAT.out
      go_wp2
      go_loopw [5, 9, 18] (fun av lv kv wr2 => ∃ (k : Nat) (ab : Bool), k ≤ m ∧ kv = .int .i64 k ∧ av = .int .i64 (a + k : Nat) ∧ lv = .bool ab ∧ allAt m a f = (ab && allAt (m - k) (a + k) f) ∧ Below w.heap.size w wr2) (fun _ _ kv _ => m - (intOf kv).toNat)
      case atStart => exact ⟨0, true, Nat.zero_le _, rfl, rfl, rfl, by simp, HBW.out⟩
      case round =>
        obtain ⟨k, ab, hk, rfl, rfl, rfl, hall, hb2⟩ := hrel
        have HB2 := Lib.hid hb2
        have k0 : (0 : Int) ≤ (k : Int) := by omega
        by_cases hkt : k < m
        · have k1 : (k : Int) < (m : Int) := by omega
          rw [allAt_step (m - k) _ _ (by omega)] at hall
          have HALL := Lib.hid hall
          clear hall hb2
          cases ab with
          | true =>
            go_wp2_with (go_at_fn g; refine (HF.out _ (a + k) HB2.out (by omega)).mono ?_; rintro e w5 ⟨rfl, hb5⟩)
            go_roundw
            case rel => exact ⟨k + 1, _, by omega, by go_num, by go_num, rfl, by rw [HALL.out, Bool.true_and]; rw [show m - k - 1 = m - (k + 1) from by omega]; rfl, hb5⟩
            case measure => simp [intOf] <;> omega
          | false =>
            go_wp2
            go_roundw
            case rel => exact ⟨k + 1, _, by omega, by go_num, by go_num, rfl, by rw [HALL.out]; rfl, HB2.out⟩
            case measure => simp [intOf] <;> omega
        · have k1 : ¬ (k : Int) < (m : Int) := by omega
          have hkm : k = m := by omega
          rw [hkm, Nat.sub_self] at hall
          have HALL := Lib.hid hall
          clear hall hb2
          cases fb with
          | true =>
            go_wp2
            go_roundw
            case rel => exact ⟨i + 1, a + k, true, by omega, by go_num, by go_num, rfl, by rw [HRR.out]; simp, by have := HT'.out; omega, HB2.out⟩
            case measure => simp [intOf] <;> omega
          | false =>
            go_wp2
            go_roundw
            case rel => exact ⟨i + 1, a + k, ab, by omega, by go_num, by go_num, rfl, by rw [HRR.out, HALL.out, hkm]; simp [allAt], by have := HT'.out; omega, HB2.out⟩
            case measure => simp [intOf] <;> omega
    · have i1 : ¬ (i : Int) < (n : Int) := by omega
      have hd : c.drop i = [] := List.drop_eq_nil_of_le (by have := HN.out; omega)
      rw [hd] at hr
      have HRR := Lib.hid hr
      clear hd hb hr hat
      go_wp2
      go_ret
      exact ⟨ret_bool (by rw [HRR.out]; simp [holdsAt]), HBW.out⟩
end Go.Proofs.YtbkcmgjmhglghaaGreatDoor
