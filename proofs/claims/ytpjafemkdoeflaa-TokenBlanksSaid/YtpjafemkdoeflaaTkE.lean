/-
  token.Escape.
-/
import Derived.Test.YtpjafemkdoeflaaTkB2
namespace Go.Proofs.Ytpjafemkdoeflaa
open Go.RowKit

def esc1 (c : UInt8) : By := if spB c then [92, c] else [c]
def escL (l : By) : By := l.flatMap esc1
theorem escL_more {s : ByteArray} {k : Nat} (hk : k < s.size) : escL (s.data.toList.take (k + 1)) = escL (s.data.toList.take k) ++ esc1 (s[k]'hk) := by
  have h2 : k < s.data.toList.length := by rw [size_len]; exact hk
  rw [List.take_succ_eq_append_getElem h2, getI h2 hk]
  unfold escL
  rw [List.flatMap_append]
  simp
theorem escL_len (l : By) : (escL l).length ≤ 2 * l.length := by
  induction l with
  | nil => simp [escL]
  | cons c l ih =>
    have e : escL (c :: l) = esc1 c ++ escL l := rfl
    rw [e, List.length_append, List.length_cons]
    have : (esc1 c).length ≤ 2 := by unfold esc1; split <;> simp
    omega

set_option maxRecDepth 100000 in
set_option maxHeartbeats 4000000 in
theorem escape_any (s : ByteArray) (hs : s.size ≤ 1000000) (w : World) : Calls Try.prog 16 #[.string s] w fun e w' => e = .returned (.string (ba (escL s.data.toList))) ∧ Below w.heap.size w w' := by
  obtain ⟨T, hT⟩ : ∃ T, T = w.heap.size := ⟨_, rfl⟩
  have hb0 : Bld w.heap.size w.heap.size [] (w.alloc (.cells #[.pointer none, .slice none 0 0] 51)) := Lib.IsBuilderF.of (Lib.fresh_isBuilder _ _ w)
  have hbl0 : Below w.heap.size w (w.alloc (.cells #[.pointer none, .slice none 0 0] 51)) := (Below.refl _ _).alloc (Nat.le_refl _) _
  have HB0 := Lib.hid hb0
  have HL0 := Lib.hid hbl0
  have HT := Lib.hid hT
  clear hb0 hbl0 hT
  go_enter Try.func16, Try.ntmps16
  go_wp2
  go_loopw [4, 7] (fun _ iv wr => ∃ k : Nat, k ≤ s.size ∧ iv = .int .i64 k ∧ Bld w.heap.size w.heap.size (Lib.byteCells (escL (s.data.toList.take k))) wr ∧ Below w.heap.size w wr) (fun _ iv _ => s.size - (intOf iv).toNat)
  case atStart => exact ⟨0, Nat.zero_le _, rfl, HB0.out, HL0.out⟩
  case round =>
    obtain ⟨k, hk, rfl, hbld, hb⟩ := hrel
    have k0 : (0 : Int) ≤ (k : Int) := by omega
    by_cases hlt : k < s.size
    · have k1 : (k : Int) < (s.size : Int) := by omega
      have hlen := escL_len (s.data.toList.take k)
      rw [List.length_take] at hlen
      have hmore := escL_more hlt
      unfold esc1 at hmore
      obtain ⟨x, hx⟩ : ∃ x : Nat, (s[k]'hlt).toNat = x := ⟨_, rfl⟩
      have hsb : spB (s[k]'hlt) = spI x := by unfold spB; rw [hx]
      have hc1 : Lib.byteCells [s[k]'hlt] = [.int .u8 (x : Int)] := by unfold Lib.byteCells; simp [hx]
      have hc2 : Lib.byteCells [92, s[k]'hlt] = [.int .u8 92, .int .u8 (x : Int)] := by unfold Lib.byteCells; simp [hx]
      rw [hsb] at hmore
      have hsp := fun W => special_any (x : Int) W
      unfold BoolP at hsp
      have HBL := Lib.hid hbld
      have HBW := Lib.hid hb
      have hsz := hb.size
      obtain ⟨P, hP⟩ : ∃ P, escL (s.data.toList.take k) = P := ⟨_, rfl⟩
      rw [hP] at HBL hlen hmore
      have hPl : (Lib.byteCells P).length ≤ 2000000 := by rw [Lib.byteCells_length]; omega
      clear hsb hbld hb hP hlen
      cases hb : spI (x : Int) with
      | true =>
        rw [hb] at hsp hmore
        rw [if_pos rfl] at hmore
        have hcell : Lib.byteCells (escL (s.data.toList.take (k + 1))) = (Lib.byteCells P ++ [.int .u8 92]) ++ [.int .u8 (x : Int)] := by rw [hmore, Lib.byteCells_append, hc2]; simp
        have HS := Lib.hid hsp
        have HCE := Lib.hid hcell
        have hw1 := fun W h1 h2 => writeByte_any w.heap.size w.heap.size (Lib.byteCells P) 92 W h1 (by omega) h2
        have hw2 := fun W h1 h2 => writeByte_any w.heap.size w.heap.size (Lib.byteCells P ++ [.int .u8 92]) (x : Int) W h1 (by rw [List.length_append, List.length_singleton]; omega) h2
        have HW1 := Lib.hid hw1
        have HW2 := Lib.hid hw2
        clear hsp hmore hc1 hc2 hb hcell hw1 hw2 hPl
        go_wp2_with fail
        refine (HS.out _).mono ?_
        rintro e w2 ⟨rfl, rfl⟩
        go_wp2_with fail
        refine (HW1.out _ HBL.out hsz).mono ?_
        rintro e w3 ⟨rfl, h3, hb3, _⟩
        have HB3 := Lib.hid h3
        have HX3 := Lib.hid (HBW.out.trans hb3)
        clear h3 hb3
        go_wp2_with fail
        refine (HW2.out _ (.inr HB3.out) HX3.out.size).mono ?_
        rintro e w4 ⟨rfl, h4, hb4, _⟩
        have HB4 := Lib.hid h4
        have HX4 := Lib.hid (HX3.out.trans hb4)
        clear h4 hb4
        go_wp2
        go_roundw
        case rel => exact ⟨k + 1, by omega, by go_num, by rw [HCE.out]; exact .inr HB4.out, HX4.out⟩
        case measure => simp [intOf] <;> omega
      | false =>
        rw [hb] at hsp hmore
        rw [if_neg (by decide)] at hmore
        have hcell : Lib.byteCells (escL (s.data.toList.take (k + 1))) = Lib.byteCells P ++ [.int .u8 (x : Int)] := by rw [hmore, Lib.byteCells_append, hc1]
        have HS := Lib.hid hsp
        have HCE := Lib.hid hcell
        have hw2 := fun W h1 h2 => writeByte_any w.heap.size w.heap.size (Lib.byteCells P) (x : Int) W h1 (by omega) h2
        have HW2 := Lib.hid hw2
        clear hsp hmore hc1 hc2 hb hcell hw2 hPl
        go_wp2_with fail
        refine (HS.out _).mono ?_
        rintro e w2 ⟨rfl, rfl⟩
        go_wp2_with fail
        refine (HW2.out _ HBL.out hsz).mono ?_
        rintro e w4 ⟨rfl, h4, hb4, _⟩
        have HB4 := Lib.hid h4
        have HX4 := Lib.hid (HBW.out.trans hb4)
        clear h4 hb4
        go_wp2
        go_roundw
        case rel => exact ⟨k + 1, by omega, by go_num, by rw [HCE.out]; exact .inr HB4.out, HX4.out⟩
        case measure => simp [intOf] <;> omega
    · have k1 : (s.size : Int) ≤ (k : Int) := by omega
      have htk : s.data.toList.take k = s.data.toList := List.take_of_length_le (by rw [size_len]; omega)
      rw [htk] at hbld
      have HB := Lib.hid hbld
      have HE := Lib.hid hb
      clear hbld hb htk
      go_wp2_with fail
      refine (Any.Builder_String_any_k Try.layB169 Try.layBx _ _ _ _ HB.out HE.out.size).mono ?_
      rintro e w6 ⟨rfl, _, hbe6, _⟩
      have HE6 := Lib.hid (HE.out.trans hbe6)
      clear hbe6
      go_wp2
      go_ret
      exact ⟨rfl, HE6.out⟩
end Go.Proofs.Ytpjafemkdoeflaa
