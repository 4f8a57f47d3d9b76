/-
  calqueref01.Encode: the encodings, one after the other. calqueref01.Valid: whether a string consists of encodings.
-/
import Derived.Test.YtgefbagojghmeaaU8W14
import Derived.Test.YtgefbagojghmeaaU8d
namespace Go.Proofs.Ytgefbagojghmeaa
open Go.RowKit

theorem oneL_bytes (n : Nat) : strOfNums (oneL n) = ⟨(U8.oneN n).toArray⟩ := by
  have e : ∀ m : Nat, UInt8.ofNat (m : Int).toNat = UInt8.ofNat m := fun m => rfl
  unfold oneL U8.oneN strOfNums
  by_cases a : n < 128
  · rw [if_pos (by omega), if_pos a]; simp
  by_cases b : n < 2048
  · rw [if_neg (by omega), if_pos (by omega), if_neg a, if_pos b]
    simp only [List.map_cons, List.map_nil]
    rw [show (192 + (n : Int) / 64).toNat = 192 + n / 64 by omega, show (128 + (n : Int) % 64).toNat = 128 + n % 64 by omega]
  by_cases c : n < 65536
  · rw [if_neg (by omega), if_neg (by omega), if_pos (by omega), if_neg a, if_neg b, if_pos c]
    simp only [List.map_cons, List.map_nil]
    rw [show (224 + (n : Int) / 4096).toNat = 224 + n / 4096 by omega, show (128 + (n : Int) / 64 % 64).toNat = 128 + n / 64 % 64 by omega, show (128 + (n : Int) % 64).toNat = 128 + n % 64 by omega]
  · rw [if_neg (by omega), if_neg (by omega), if_neg (by omega), if_neg a, if_neg b, if_neg c]
    simp only [List.map_cons, List.map_nil]
    rw [show (240 + (n : Int) / 262144).toNat = 240 + n / 262144 by omega, show (128 + (n : Int) / 4096 % 64).toNat = 128 + n / 4096 % 64 by omega, show (128 + (n : Int) / 64 % 64).toNat = 128 + n / 64 % 64 by omega, show (128 + (n : Int) % 64).toNat = 128 + n % 64 by omega]
theorem one_nat (n : Int) (h0 : 0 ≤ n) (h1 : n ≤ 1114111) (w : World) : Calls Try.prog 46 #[.int .i64 n] w fun e w' => e = .returned (.string ⟨(U8.oneN n.toNat).toArray⟩) ∧ Below w.heap.size w w' := by
  refine (one_any n w h0 h1).mono ?_
  rintro e w' ⟨he, hb⟩
  obtain ⟨m, rfl⟩ := Int.eq_ofNat_of_zero_le h0
  rw [oneL_bytes] at he
  exact ⟨he, hb⟩
def EncP (xs : List Int) (w : World) (e : Ending) (w' : World) : Prop := e = .returned (.string (encS xs)) ∧ Below w.heap.size w w'

set_option maxRecDepth 100000 in
set_option maxHeartbeats 1000000 in
theorem refencode_any (v : Value) (xs : List Int) (hx : xs.length ≤ 1000000) (w : World) (hv : IsInts w w.heap.size v xs) : Calls Try.prog 30 #[v] w (EncP xs w) := by
  obtain ⟨ao, ca, rfl, ha⟩ := hv
  obtain ⟨n, hn⟩ : ∃ n, n = xs.length := ⟨_, rfl⟩
  rw [← hn] at ha hx
  rw [← hn]
  have HA := Lib.hid ha
  have HN := Lib.hid hn
  clear ha hn
  go_enter Try.func30, Try.ntmps30
  go_wp2
  go_loopw [3, 4] (fun t i wr => ∃ k : Nat, k ≤ n ∧ i = .int .i64 k ∧ t = .string (encS (xs.take k)) ∧ Below w.heap.size w wr) (fun _ i _ => n - (intOf i).toNat)
  case atStart => exact ⟨0, Nat.zero_le _, rfl, by simp [encS_nil], Below.refl _ _⟩
  case round =>
    obtain ⟨k, hk, rfl, rfl, hbel⟩ := hrel
    have hes := encS_size (xs.take k)
    have hes2 : (encS (xs.take k)).size ≤ 4000000 := by rw [List.length_take] at hes; omega
    obtain ⟨t, ht⟩ : ∃ t, encS (xs.take k) = t := ⟨_, rfl⟩
    rw [ht] at hes2
    rw [ht]
    have HT := Lib.hid ht
    clear ht hes
    by_cases hlt : k < n
    · obtain ⟨b, o, rfl, hbw, hc⟩ := HA.out (by have := HN.out; omega)
      have c1 := (hbel.cell (p := ⟨b, o + k, none⟩) hbw).trans (hc k (by have := HN.out; omega))
      have hs := encS_snoc (xs.take k) (xs.getD k 0)
      rw [← take_more (by have := HN.out; omega)] at hs
      obtain ⟨x, hx'⟩ : ∃ x, xs.getD k 0 = x := ⟨_, rfl⟩
      rw [hx'] at c1 hs
      rw [HT.out] at hs
      have HS := Lib.hid hs
      have HBL := Lib.hid hbel
      have k0 : (0 : Int) ≤ (k : Int) := by omega
      have k1 : (k : Int) < (n : Int) := by omega
      clear hc hx' hs hbel
      by_cases hp : pointB x = true
      · have hp1 : 0 ≤ x ∧ x ≤ 1114111 := by simp [pointB] at hp; omega
        have hnm : norm x = x.toNat := by unfold norm; rw [if_pos hp]
        have HNM := Lib.hid hnm
        have hol := U8.oneN_len x.toNat
        clear hnm
        go_wp2_with fail
        refine (point_any _ _).mono ?_
        rintro e w1 ⟨rfl, rfl⟩
        go_wp2_with fail
        refine (one_nat x hp1.1 hp1.2 _).mono ?_
        rintro e w2 ⟨rfl, hb2⟩
        have HB2 := Lib.hid (HBL.out.trans (hb2.mono HBL.out.size))
        clear hb2
        obtain ⟨y, hy⟩ : ∃ y : ByteArray, ⟨(U8.oneN x.toNat).toArray⟩ = y := ⟨_, rfl⟩
        have hys : y.size ≤ 4 := by rw [← hy, ← U8.size_len]; exact hol.2
        rw [hy]
        have HY := Lib.hid hy
        clear hy hol
        go_wp2
        go_roundw
        case rel => exact ⟨k + 1, by omega, by go_num, by rw [HS.out, HNM.out, HY.out], HB2.out⟩
        case measure => simp [intOf]; omega
      · have hp0 : pointB x = false := by simpa using hp
        clear hp
        have hnm : norm x = 65533 := by unfold norm; rw [hp0]; rfl
        have HNM := Lib.hid hnm
        clear hnm
        go_wp2_with fail
        refine (point_any _ _).mono ?_
        rintro e w1 ⟨rfl, rfl⟩
        go_wp2_with fail
        refine (one_nat 65533 (by decide) (by decide) _).mono ?_
        rintro e w2 ⟨rfl, hb2⟩
        have HB2 := Lib.hid (HBL.out.trans (hb2.mono HBL.out.size))
        clear hb2
        obtain ⟨y, hy⟩ : ∃ y : ByteArray, ⟨(U8.oneN (65533 : Int).toNat).toArray⟩ = y := ⟨_, rfl⟩
        have hys : y.size ≤ 4 := by rw [← hy]; decide
        rw [hy]
        have HY := Lib.hid hy
        clear hy
        go_wp2
        go_roundw
        case rel => exact ⟨k + 1, by omega, by go_num, by rw [HS.out, HNM.out, ← HY.out]; rfl, HB2.out⟩
        case measure => simp [intOf]; omega
    · have ht : encS xs = t := by
        have := HT.out
        rwa [List.take_of_length_le (by have := HN.out; omega)] at this
      have HT2 := Lib.hid ht
      have HBL := Lib.hid hbel
      clear ht hbel
      go_wp2
      go_ret
      unfold EncP
      rw [HT2.out]
      exact ⟨rfl, HBL.out⟩

def ValP (s : ByteArray) (w : World) (e : Ending) (w' : World) : Prop := e = .returned (.bool (Lib.validD s.data.toList)) ∧ Below w.heap.size w w'
theorem encS_els (s : ByteArray) : encS (ints (U8.els s.data.toList)) = ⟨(U8.encN (U8.els s.data.toList)).toArray⟩ := by
  unfold encS ints
  rw [List.map_map]
  congr 3
  exact (List.map_congr_left (g := id) (fun n hn => norm_nat (U8.els_pt _ _ (Nat.le_refl _) n hn))).trans (List.map_id _)
theorem valid_eq (s : ByteArray) : ((encS (ints (U8.els s.data.toList))).toList == s.toList) = Lib.validD s.data.toList := by
  rw [ByteArray.toList_eq, ByteArray.toList_eq, encS_els, Bool.eq_iff_iff, beq_iff_eq]
  exact U8.enc_els_iff _

set_option maxRecDepth 100000 in
theorem refvalid_any (s : ByteArray) (hs : s.size ≤ 1000000) (w : World) : Calls Try.prog 15 #[.string s] w (ValP s w) := by
  have hl := U8.els_len s.data.toList
  rw [U8.size_len] at hl
  have hli : (ints (U8.els s.data.toList)).length ≤ 1000000 := by unfold ints; rw [List.length_map]; omega
  have hve := valid_eq s
  obtain ⟨t, ht⟩ : ∃ t, encS (ints (U8.els s.data.toList)) = t := ⟨_, rfl⟩
  obtain ⟨b, hb⟩ : ∃ b, Lib.validD s.data.toList = b := ⟨_, rfl⟩
  rw [ht, hb] at hve
  have HT := Lib.hid ht
  have HB := Lib.hid hb
  clear ht hb
  go_enter Try.func15, Try.ntmps15
  go_wp2_with fail
  refine (refdecode_any s hs _).mono ?_
  rintro e w1 ⟨v, rfl, hown, hb1⟩
  have HI := Lib.hid (IsInts.of_own hown)
  have HB1 := Lib.hid hb1
  clear hown hb1
  go_wp2_with fail
  refine (refencode_any v _ hli _ HI.out).mono ?_
  rintro e w2 ⟨he, hb2⟩
  rw [HT.out] at he
  subst he
  have HB2 := Lib.hid (HB1.out.trans (hb2.mono HB1.out.size))
  clear hb2
  go_wp2
  go_ret
  unfold ValP
  rw [HB.out]
  exact ⟨rfl, HB2.out⟩
end Go.Proofs.Ytgefbagojghmeaa
