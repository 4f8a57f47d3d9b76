/-
  strings.CutPrefix, strings.CutSuffix and what they call.
-/
import Derived.Test.YtpjafemkdoeflaaTk4
namespace Go.Proofs.Ytpjafemkdoeflaa
open Go.RowKit

theorem same_bytes (s t : ByteArray) : (s.toList == t.toList) = decide (s = t) := by
  rw [ByteArray.toList_eq, ByteArray.toList_eq, Bool.eq_iff_iff, beq_iff_eq, decide_eq_true_eq]
  constructor
  · intro h
    apply ByteArray.ext
    exact Array.toList_inj.1 h
  · intro h
    rw [h]

def preB (s p : ByteArray) : Bool := decide (p.size ≤ s.size) && decide (s.extract 0 p.size = p)
def sufB (s p : ByteArray) : Bool := decide (p.size ≤ s.size) && decide (s.extract (s.size - p.size) s.size = p)

theorem hasPrefix_any (s p : ByteArray) (w : World) : Calls Try.prog 46 #[.string s, .string p] w fun e w' => e = .returned (.bool (preB s p)) ∧ w = w' := by
  unfold preB
  by_cases h : p.size ≤ s.size
  · rw [decide_eq_true h, Bool.true_and, ← same_bytes]
    go_enter Try.func46, Try.ntmps46
    go_wp2
    go_ret
    exact ⟨rfl, rfl⟩
  · rw [decide_eq_false h, Bool.false_and]
    go_enter Try.func46, Try.ntmps46
    go_wp2
    go_ret
    exact ⟨rfl, rfl⟩
theorem hasSuffix_any (s p : ByteArray) (hs : s.size ≤ 1000000) (hp : p.size ≤ 1000000) (w : World) : Calls Try.prog 47 #[.string s, .string p] w fun e w' => e = .returned (.bool (sufB s p)) ∧ w = w' := by
  unfold sufB
  by_cases h : p.size ≤ s.size
  · rw [decide_eq_true h, Bool.true_and, ← same_bytes]
    have e1 : ((s.size : Int) - (p.size : Int)).toNat = s.size - p.size := by omega
    go_enter Try.func47, Try.ntmps47
    go_wp2
    go_ret
    exact ⟨by first | rfl | (rw [e1]) | simp [e1], rfl⟩
  · rw [decide_eq_false h, Bool.false_and]
    go_enter Try.func47, Try.ntmps47
    go_wp2
    go_ret
    exact ⟨rfl, rfl⟩
theorem pre_le {s p : ByteArray} (h : preB s p = true) : p.size ≤ s.size := by
  unfold preB at h
  simp at h
  exact h.1
theorem suf_le {s p : ByteArray} (h : sufB s p = true) : p.size ≤ s.size := by
  unfold sufB at h
  simp at h
  exact h.1

def cutPV (s p : ByteArray) : Value := if preB s p then .tuple #[.string (s.extract p.size s.size), .bool true] else .tuple #[.string s, .bool false]
def cutSV (s p : ByteArray) : Value := if sufB s p then .tuple #[.string (s.extract 0 (s.size - p.size)), .bool true] else .tuple #[.string s, .bool false]
theorem lcutp_any (s p : ByteArray) (w : World) : Calls Try.prog 43 #[.string s, .string p] w fun e w' => e = .returned (cutPV s p) ∧ w = w' := by
  have hh := hasPrefix_any s p w
  unfold cutPV
  obtain ⟨b, hb⟩ : ∃ b, preB s p = b := ⟨_, rfl⟩
  have hle := fun e : b = true => pre_le (s := s) (p := p) (hb.trans e)
  rw [hb] at hh
  rw [hb]
  have HH := Lib.hid hh
  clear hh hb
  cases b
  · go_enter Try.func43, Try.ntmps43
    go_wp2_with fail
    refine (HH.out).mono ?_
    rintro e wq ⟨rfl, rfl⟩
    go_wp2
    go_ret2
    exact ⟨rfl, rfl⟩
  · have hle := hle rfl
    go_enter Try.func43, Try.ntmps43
    go_wp2_with fail
    refine (HH.out).mono ?_
    rintro e wq ⟨rfl, rfl⟩
    go_wp2
    go_ret2
    exact ⟨rfl, rfl⟩
theorem lcuts_any (s p : ByteArray) (hs : s.size ≤ 1000000) (hp : p.size ≤ 1000000) (w : World) : Calls Try.prog 44 #[.string s, .string p] w fun e w' => e = .returned (cutSV s p) ∧ w = w' := by
  have hh := hasSuffix_any s p hs hp w
  unfold cutSV
  obtain ⟨b, hb⟩ : ∃ b, sufB s p = b := ⟨_, rfl⟩
  have hle := fun e : b = true => suf_le (s := s) (p := p) (hb.trans e)
  rw [hb] at hh
  rw [hb]
  have HH := Lib.hid hh
  clear hh hb
  cases b
  · go_enter Try.func44, Try.ntmps44
    go_wp2_with fail
    refine (HH.out).mono ?_
    rintro e wq ⟨rfl, rfl⟩
    go_wp2
    go_ret2
    exact ⟨rfl, rfl⟩
  · have hle := hle rfl
    have e1 : ((s.size : Int) - (p.size : Int)).toNat = s.size - p.size := by omega
    go_enter Try.func44, Try.ntmps44
    go_wp2_with fail
    refine (HH.out).mono ?_
    rintro e wq ⟨rfl, rfl⟩
    go_wp2
    go_ret2
    exact ⟨by first | rfl | (rw [e1]; rfl) | simp [e1], rfl⟩
theorem cutp_any (s p : ByteArray) (w : World) : Calls Try.prog 39 #[.string s, .string p] w fun e w' => e = .returned (cutPV s p) ∧ w = w' := by
  have hh := lcutp_any s p w
  have hf : ∃ t b, cutPV s p = .tuple #[.string t, .bool b] := by unfold cutPV; split <;> exact ⟨_, _, rfl⟩
  obtain ⟨t, b, hf⟩ := hf
  rw [hf] at hh ⊢
  have HH := Lib.hid hh
  clear hh hf
  go_enter Try.func39, Try.ntmps39
  go_wp2_with fail
  refine (HH.out).mono ?_
  rintro e wq ⟨rfl, rfl⟩
  go_wp2
  go_ret2
  exact ⟨rfl, rfl⟩
theorem cuts_any (s p : ByteArray) (hs : s.size ≤ 1000000) (hp : p.size ≤ 1000000) (w : World) : Calls Try.prog 40 #[.string s, .string p] w fun e w' => e = .returned (cutSV s p) ∧ w = w' := by
  have hh := lcuts_any s p hs hp w
  have hf : ∃ t b, cutSV s p = .tuple #[.string t, .bool b] := by unfold cutSV; split <;> exact ⟨_, _, rfl⟩
  obtain ⟨t, b, hf⟩ := hf
  rw [hf] at hh ⊢
  have HH := Lib.hid hh
  clear hh hf
  go_enter Try.func40, Try.ntmps40
  go_wp2_with fail
  refine (HH.out).mono ?_
  rintro e wq ⟨rfl, rfl⟩
  go_wp2
  go_ret2
  exact ⟨rfl, rfl⟩
end Go.Proofs.Ytpjafemkdoeflaa
