/-
  calqueref01.Next returns the model's own first element and its width, of any string that is not empty.
-/
import Derived.Test.YtgefbagojghmeaaU8W2
namespace Go.Proofs.Ytgefbagojghmeaa
open Go.RowKit Go.Lib

theorem cont_iff (s : ByteArray) (i : Nat) : contB s i ↔ (s.data.toList.getD i 0).toNat / 64 = 2 := by
  unfold contB bt
  have := (s.data.toList.getD i 0).toNat_lt
  constructor <;> intro h <;> omega
theorem take_get (l : List UInt8) : ∀ k, k ≤ l.length → l.take k = (List.range k).map fun i => l.getD i 0
  | 0, _ => by simp
  | k + 1, h => by
    have hk : k < l.length := by omega
    rw [List.range_succ, List.map_append, ← take_get l k (by omega), List.take_succ_eq_append_getElem hk]
    simp [List.getD, hk]
theorem ofNat_eq {b : UInt8} {n : Int} (h : n = (b.toNat : Int)) : UInt8.ofNat n.toNat = b := by
  subst h; simp
theorem ofNat_ne {b : UInt8} {n : Int} (h0 : 0 ≤ n) (h1 : n < 256) (h : UInt8.ofNat n.toNat = b) : n = (b.toNat : Int) := by
  subst h
  rw [UInt8.toNat_ofNat']
  omega
theorem one_same (s : ByteArray) (a : Int) (sz : Nat) (hl : sz ≤ s.size) (h : (oneL a).map (fun n => UInt8.ofNat n.toNat) = (List.range sz).map fun i => s.data.toList.getD i 0) :
    (!(strOfNums (oneL a)).toList == (s.extract 0 sz).toList) = false := by
  rw [ByteArray.toList_eq, ByteArray.toList_eq, strOfNums_data, extract_data, h, ← take_get _ _ (by rw [U8.size_len]; exact hl)]
  simp
theorem one_diff (s : ByteArray) (a : Int) (sz : Nat) (hl : sz ≤ s.size) (h : (oneL a).length ≠ sz) :
    (!(strOfNums (oneL a)).toList == (s.extract 0 sz).toList) = true := by
  rw [ByteArray.toList_eq, ByteArray.toList_eq, strOfNums_data, extract_data, Bool.not_eq_true', beq_eq_false_iff_ne]
  intro e
  have := congrArg List.length e
  rw [List.length_map, List.length_take, List.length_drop, U8.size_len] at this
  omega

/-- What Next answers, of a string that is not empty. -/
def NextQ (s : ByteArray) (w : World) (e : Ending) (w' : World) : Prop :=
  e = .returned (.tuple #[.int .i64 (decodeL s.data.toList).1, .int .i64 (decodeL s.data.toList).2]) ∧ Below w.heap.size w w'
theorem NextQ.mk' {s : ByteArray} {w w' : World} {c : Int} {z : Int} (h : ((decodeL s.data.toList).1 : Int) = c ∧ ((decodeL s.data.toList).2 : Int) = z) (hb : Below w.heap.size w w') :
    NextQ s w (.returned (.tuple #[.int .i64 c, .int .i64 z])) w' := by
  unfold NextQ
  rw [h.1, h.2]
  exact ⟨rfl, hb⟩

set_option maxHeartbeats 2000000 in
theorem plain_2 (s : ByteArray) (hl : 2 ≤ s.size) (hb : 192 ≤ bt s 0 ∧ bt s 0 < 224) {w w' : World} {e : Ending} (h : NextP s (accN s (bt s 0 - 192)) 2 w e w') : NextQ s w e w' := by
  obtain ⟨b1, b2⟩ := hb
  have e0 : bt s 0 = ((s.data.toList.getD 0 0).toNat : Int) := rfl
  have e1 : bt s 1 = ((s.data.toList.getD 1 0).toNat : Int) := rfl
  have ln := U8.size_len s
  have D := decodeL_N s.data.toList
  have A : accN s (bt s 0 - 192) 2 = (64 * (bt s 0 - 192) + bt s 1 - 128) := by simp [accN]
  unfold decodeN at D
  rw [if_neg (by omega)] at D
  rcases h with ⟨⟨k, k1, k2, hk⟩, rfl, hB⟩ | ⟨hc, hp, rfl, hB⟩ | ⟨hc, hp, hq, rfl, hB⟩
  · rw [cont_iff] at hk
    rw [if_neg (by
      rintro h
      rcases (show k = 1 by omega) with rfl <;> omega)] at D
    rw [if_neg (by omega), if_neg (by omega)] at D
    exact .mk' (by rw [D]; simp) hB
  · have c1 := hc 1 (by omega) (by omega)
    have d1 := (cont_iff s 1).1 c1
    obtain ⟨c1, c1'⟩ := c1
    rw [if_pos (by omega)] at D
    by_cases hs : 128 ≤ accN s (bt s 0 - 192) 2
    · exfalso
      rcases hp with hp | hp
      · simp [pointB] at hp; omega
      · rw [one_same s _ 2 hl ?_] at hp
        · cases hp
        · have : oneL (accN s (bt s 0 - 192) 2) = [192 + accN s (bt s 0 - 192) 2 / 64, 128 + accN s (bt s 0 - 192) 2 % 64] := by unfold oneL; rw [if_neg (by omega), if_pos (by omega)]
          rw [this]
          simp only [List.map_cons, List.map_nil, List.range_succ, List.range_zero, List.nil_append, List.cons_append]
          rw [ofNat_eq (b := s.data.toList.getD 0 0) (by omega), ofNat_eq (b := s.data.toList.getD 1 0) (by omega)]
    · rw [if_neg (by omega)] at D
      exact .mk' (by rw [D]; simp) hB
  · have c1 := hc 1 (by omega) (by omega)
    have d1 := (cont_iff s 1).1 c1
    obtain ⟨c1, c1'⟩ := c1
    rw [if_pos (by omega)] at D
    by_cases hs : 128 ≤ accN s (bt s 0 - 192) 2
    · rw [if_pos (by omega)] at D
      exact .mk' (by rw [D]; exact ⟨by dsimp only; omega, rfl⟩) hB
    · exfalso
      rw [one_diff s _ 2 hl (by unfold oneL; rw [if_pos (by omega)]; simp)] at hq
      cases hq
set_option maxHeartbeats 2000000 in
theorem plain_3 (s : ByteArray) (hl : 3 ≤ s.size) (hb : 224 ≤ bt s 0 ∧ bt s 0 < 240) {w w' : World} {e : Ending} (h : NextP s (accN s (bt s 0 - 224)) 3 w e w') : NextQ s w e w' := by
  obtain ⟨b1, b2⟩ := hb
  have e0 : bt s 0 = ((s.data.toList.getD 0 0).toNat : Int) := rfl
  have e1 : bt s 1 = ((s.data.toList.getD 1 0).toNat : Int) := rfl
  have e2 : bt s 2 = ((s.data.toList.getD 2 0).toNat : Int) := rfl
  have ln := U8.size_len s
  have D := decodeL_N s.data.toList
  have A : accN s (bt s 0 - 224) 3 = (64 * (64 * (bt s 0 - 224) + bt s 1 - 128) + bt s 2 - 128) := by simp [accN]
  unfold decodeN at D
  rw [if_neg (by omega)] at D
  rw [if_neg (by omega)] at D
  rcases h with ⟨⟨k, k1, k2, hk⟩, rfl, hB⟩ | ⟨hc, hp, rfl, hB⟩ | ⟨hc, hp, hq, rfl, hB⟩
  · rw [cont_iff] at hk
    rw [if_neg (by
      rintro h
      rcases (show k = 1 ∨ k = 2 by omega) with rfl | rfl <;> omega)] at D
    rw [if_neg (by omega)] at D
    exact .mk' (by rw [D]; simp) hB
  · have c1 := hc 1 (by omega) (by omega)
    have d1 := (cont_iff s 1).1 c1
    obtain ⟨c1, c1'⟩ := c1
    have c2 := hc 2 (by omega) (by omega)
    have d2 := (cont_iff s 2).1 c2
    obtain ⟨c2, c2'⟩ := c2
    rw [if_pos (by omega)] at D
    by_cases hs : 2048 ≤ accN s (bt s 0 - 224) 3 ∧ (accN s (bt s 0 - 224) 3 < 55296 ∨ 57344 ≤ accN s (bt s 0 - 224) 3)
    · exfalso
      rcases hp with hp | hp
      · simp [pointB] at hp; omega
      · rw [one_same s _ 3 hl ?_] at hp
        · cases hp
        · have : oneL (accN s (bt s 0 - 224) 3) = [224 + accN s (bt s 0 - 224) 3 / 4096, 128 + accN s (bt s 0 - 224) 3 / 64 % 64, 128 + accN s (bt s 0 - 224) 3 % 64] := by unfold oneL; rw [if_neg (by omega), if_neg (by omega), if_pos (by omega)]
          rw [this]
          simp only [List.map_cons, List.map_nil, List.range_succ, List.range_zero, List.nil_append, List.cons_append]
          rw [ofNat_eq (b := s.data.toList.getD 0 0) (by omega), ofNat_eq (b := s.data.toList.getD 1 0) (by omega), ofNat_eq (b := s.data.toList.getD 2 0) (by omega)]
    · rw [if_neg (by omega)] at D
      exact .mk' (by rw [D]; simp) hB
  · have c1 := hc 1 (by omega) (by omega)
    have d1 := (cont_iff s 1).1 c1
    obtain ⟨c1, c1'⟩ := c1
    have c2 := hc 2 (by omega) (by omega)
    have d2 := (cont_iff s 2).1 c2
    obtain ⟨c2, c2'⟩ := c2
    rw [if_pos (by omega)] at D
    by_cases hs : 2048 ≤ accN s (bt s 0 - 224) 3 ∧ (accN s (bt s 0 - 224) 3 < 55296 ∨ 57344 ≤ accN s (bt s 0 - 224) 3)
    · rw [if_pos (by omega)] at D
      exact .mk' (by rw [D]; exact ⟨by dsimp only; omega, rfl⟩) hB
    · exfalso
      have hpp : 0 ≤ accN s (bt s 0 - 224) 3 ∧ accN s (bt s 0 - 224) 3 ≤ 1114111 ∧ (accN s (bt s 0 - 224) 3 < 55296 ∨ 57343 < accN s (bt s 0 - 224) 3) := by simpa [pointB] using hp
      rw [one_diff s _ 3 hl (by
        unfold oneL
        repeat' split
        all_goals first | (exfalso; omega) | simp)] at hq
      cases hq
set_option maxHeartbeats 2000000 in
theorem plain_4 (s : ByteArray) (hl : 4 ≤ s.size) (hb : 240 ≤ bt s 0 ∧ bt s 0 < 248) {w w' : World} {e : Ending} (h : NextP s (accN s (bt s 0 - 240)) 4 w e w') : NextQ s w e w' := by
  obtain ⟨b1, b2⟩ := hb
  have e0 : bt s 0 = ((s.data.toList.getD 0 0).toNat : Int) := rfl
  have e1 : bt s 1 = ((s.data.toList.getD 1 0).toNat : Int) := rfl
  have e2 : bt s 2 = ((s.data.toList.getD 2 0).toNat : Int) := rfl
  have e3 : bt s 3 = ((s.data.toList.getD 3 0).toNat : Int) := rfl
  have ln := U8.size_len s
  have D := decodeL_N s.data.toList
  have A : accN s (bt s 0 - 240) 4 = (64 * (64 * (64 * (bt s 0 - 240) + bt s 1 - 128) + bt s 2 - 128) + bt s 3 - 128) := by simp [accN]
  unfold decodeN at D
  rw [if_neg (by omega)] at D
  rw [if_neg (by omega), if_neg (by omega)] at D
  rcases h with ⟨⟨k, k1, k2, hk⟩, rfl, hB⟩ | ⟨hc, hp, rfl, hB⟩ | ⟨hc, hp, hq, rfl, hB⟩
  · rw [cont_iff] at hk
    rw [if_neg (by
      rintro h
      rcases (show k = 1 ∨ k = 2 ∨ k = 3 by omega) with rfl | rfl | rfl <;> omega)] at D
    exact .mk' (by rw [D]; simp) hB
  · have c1 := hc 1 (by omega) (by omega)
    have d1 := (cont_iff s 1).1 c1
    obtain ⟨c1, c1'⟩ := c1
    have c2 := hc 2 (by omega) (by omega)
    have d2 := (cont_iff s 2).1 c2
    obtain ⟨c2, c2'⟩ := c2
    have c3 := hc 3 (by omega) (by omega)
    have d3 := (cont_iff s 3).1 c3
    obtain ⟨c3, c3'⟩ := c3
    rw [if_pos (by omega)] at D
    by_cases hs : 65536 ≤ accN s (bt s 0 - 240) 4 ∧ accN s (bt s 0 - 240) 4 ≤ 1114111
    · exfalso
      rcases hp with hp | hp
      · simp [pointB] at hp; omega
      · rw [one_same s _ 4 hl ?_] at hp
        · cases hp
        · have : oneL (accN s (bt s 0 - 240) 4) = [240 + accN s (bt s 0 - 240) 4 / 262144, 128 + accN s (bt s 0 - 240) 4 / 4096 % 64, 128 + accN s (bt s 0 - 240) 4 / 64 % 64, 128 + accN s (bt s 0 - 240) 4 % 64] := by unfold oneL; rw [if_neg (by omega), if_neg (by omega), if_neg (by omega)]
          rw [this]
          simp only [List.map_cons, List.map_nil, List.range_succ, List.range_zero, List.nil_append, List.cons_append]
          rw [ofNat_eq (b := s.data.toList.getD 0 0) (by omega), ofNat_eq (b := s.data.toList.getD 1 0) (by omega), ofNat_eq (b := s.data.toList.getD 2 0) (by omega), ofNat_eq (b := s.data.toList.getD 3 0) (by omega)]
    · rw [if_neg (by omega)] at D
      exact .mk' (by rw [D]; simp) hB
  · have c1 := hc 1 (by omega) (by omega)
    have d1 := (cont_iff s 1).1 c1
    obtain ⟨c1, c1'⟩ := c1
    have c2 := hc 2 (by omega) (by omega)
    have d2 := (cont_iff s 2).1 c2
    obtain ⟨c2, c2'⟩ := c2
    have c3 := hc 3 (by omega) (by omega)
    have d3 := (cont_iff s 3).1 c3
    obtain ⟨c3, c3'⟩ := c3
    rw [if_pos (by omega)] at D
    by_cases hs : 65536 ≤ accN s (bt s 0 - 240) 4 ∧ accN s (bt s 0 - 240) 4 ≤ 1114111
    · rw [if_pos (by omega)] at D
      exact .mk' (by rw [D]; exact ⟨by dsimp only; omega, rfl⟩) hB
    · exfalso
      have hpp : 0 ≤ accN s (bt s 0 - 240) 4 ∧ accN s (bt s 0 - 240) 4 ≤ 1114111 ∧ (accN s (bt s 0 - 240) 4 < 55296 ∨ 57343 < accN s (bt s 0 - 240) 4) := by simpa [pointB] using hp
      rw [one_diff s _ 4 hl (by
        unfold oneL
        repeat' split
        all_goals first | (exfalso; omega) | simp)] at hq
      cases hq

theorem plain_bad (s : ByteArray) (hb : 128 ≤ bt s 0)
    (h : bt s 0 < 192 ∨ 248 ≤ bt s 0 ∨ (bt s 0 < 224 ∧ s.size < 2) ∨ (224 ≤ bt s 0 ∧ bt s 0 < 240 ∧ s.size < 3) ∨ (240 ≤ bt s 0 ∧ s.size < 4)) : decodeL s.data.toList = (65533, 1) := by
  have e0 : bt s 0 = ((s.data.toList.getD 0 0).toNat : Int) := rfl
  have lt := (bt_lt s 0).2
  have ln := U8.size_len s
  rw [decodeL_N]
  unfold decodeN
  rw [if_neg (by omega), if_neg (by omega), if_neg (by omega), if_neg (by omega)]

theorem next_any (s : ByteArray) (w : World) (hs : s.size ≤ 4611686018427387904) (h0 : 0 < s.size) : Calls Try.prog 36 #[.string s] w (NextQ s w) := by
  have hb := bt_at s 0 h0
  have hlt := bt_lt s 0
  by_cases a1 : bt s 0 < 128
  · refine (next_low s w h0 (by omega)).mono ?_
    rintro e w' ⟨rfl, rfl⟩
    refine .mk' ?_ (Below.refl _ _)
    rw [decodeL_N]
    unfold decodeN
    have e0 : bt s 0 = ((s.data.toList.getD 0 0).toNat : Int) := rfl
    rw [if_pos (by omega), hb]
    exact ⟨rfl, rfl⟩
  have bad : ∀ (e : Ending) (w' : World), (bt s 0 < 192 ∨ 248 ≤ bt s 0 ∨ (bt s 0 < 224 ∧ s.size < 2) ∨ (224 ≤ bt s 0 ∧ bt s 0 < 240 ∧ s.size < 3) ∨ (240 ≤ bt s 0 ∧ s.size < 4)) →
      (e = .returned (.tuple #[.int .i64 65533, .int .i64 1]) ∧ w = w') → NextQ s w e w' := by
    rintro e w' h ⟨rfl, rfl⟩
    exact .mk' (by rw [plain_bad s (by omega) h]; simp) (Below.refl _ _)
  by_cases a2 : bt s 0 < 192
  · exact (next_bada s w h0 (by omega) (by omega)).mono fun e w' h => bad e w' (by omega) h
  by_cases a3 : bt s 0 < 224
  · by_cases l : s.size < 2
    · exact (next_bad2 s w hs h0 (by omega) (by omega) l).mono fun e w' h => bad e w' (by omega) h
    · exact (next_2 s w hs h0 (by omega) (by omega)).mono fun e w' h => plain_2 s (by omega) (by omega) h
  by_cases a4 : bt s 0 < 240
  · by_cases l : s.size < 3
    · exact (next_bad3 s w hs h0 (by omega) (by omega) l).mono fun e w' h => bad e w' (by omega) h
    · exact (next_3 s w hs h0 (by omega) (by omega)).mono fun e w' h => plain_3 s (by omega) (by omega) h
  by_cases a5 : bt s 0 < 248
  · by_cases l : s.size < 4
    · exact (next_bad4 s w hs h0 (by omega) (by omega) l).mono fun e w' h => bad e w' (by omega) h
    · exact (next_4 s w hs h0 (by omega) (by omega)).mono fun e w' h => plain_4 s (by omega) (by omega) h
  · exact (next_badb s w h0 (by omega) (by omega)).mono fun e w' h => bad e w' (by omega) h
end Go.Proofs.Ytgefbagojghmeaa
