/-
  The law TokenTexts: Tokens returns the specified tokens, place and error.
-/
import Derived.Test.YtpjafemkdoeflaaTkA
namespace Go.Proofs.Ytpjafemkdoeflaa
open Go.RowKit

theorem outL_len (l : By) : (outL l).length ≤ 4000 := by
  have h : ∀ (f : Nat) (l : By) (a d : Nat), (toksF f l a d).1.length ≤ l.length := by
    intro f
    induction f with
    | zero => intro l a d; simp [toksF]
    | succ f ih =>
      intro l a d
      cases l with
      | nil => simp [toksF]
      | cons c r =>
        rw [toksF]
        split
        · have := ih r (a + 1) d
          rw [List.length_cons]
          omega
        · split
          · simp
          · rename_i k t n ht
            split
            · simp
            · have hn := tok1_size ht
              have := ih ((c :: r).drop n) (a + n) (newD k d)
              rw [List.length_drop] at this
              rw [List.length_cons] at this hn ⊢
              rw [List.length_cons]
              omega
  unfold outL
  split
  · simp
  · rename_i hl
    split
    · have := h (l.length + 1) l 0 0
      unfold toks
      omega
    · simp

set_option maxRecDepth 100000 in
set_option maxHeartbeats 4000000 in
theorem law_TokenTexts (s : ByteArray) (hs : s.size ≤ maxLen) (w : World) : Calls Try.prog 3 #[.string s] w (TrueP w) := by
  unfold maxLen at hs
  by_cases hl : 4100 < s.size
  · go_enter Try.func3, Try.ntmps3
    go_wp2_with fail
    refine (awake_any _).mono ?_
    rintro e w1 ⟨rfl, hb1⟩
    have HB1 := Lib.hid hb1
    clear hb1
    go_wp2
    go_ret
    exact ⟨rfl, HB1.out⟩
  · have hsb := ba_of (s := s) rfl
    have h1 := fun W => tokens_any s.data.toList (by rw [size_len]; omega) W
    have h2 := fun W => rtokens_any s.data.toList (by rw [size_len]; omega) W
    unfold ToksP at h1 h2
    rw [← hsb] at h1 h2
    have hol := outL_len s.data.toList
    obtain ⟨O, hO⟩ : ∃ O, outL s.data.toList = O := ⟨_, rfl⟩
    obtain ⟨A, hA⟩ : ∃ A, atV s.data.toList = A := ⟨_, rfl⟩
    obtain ⟨E, hE⟩ : ∃ E, errV s.data.toList = E := ⟨_, rfl⟩
    rw [hO] at hol
    simp only [hO, hA, hE] at h1 h2
    have H1 := Lib.hid h1
    have H2 := Lib.hid h2
    clear h1 h2 hO hA hE hsb
    go_enter Try.func3, Try.ntmps3
    go_wp2_with fail
    refine (awake_any _).mono ?_
    rintro e w1 ⟨rfl, hb1⟩
    have HB1 := Lib.hid hb1
    clear hb1
    go_wp2_with fail
    refine (H1.out _).mono ?_
    rintro e w2 ⟨v2, rfl, hi2, hb2⟩
    have HI2 := Lib.hid hi2
    have HB2 := Lib.hid (HB1.out.trans (hb2.mono HB1.out.size))
    clear hi2 hb2
    go_wp2_with fail
    refine (H2.out _).mono ?_
    rintro e w3 ⟨v3, rfl, hi3, hb3⟩
    have hi23 := (HI2.out.below hb3).more hb3.size
    have how := own_any v2 O w3.heap.size w3 hi23 (Nat.le_refl _) (by omega)
    have HI3 := Lib.hid hi3
    have HW := Lib.hid how
    have HB3 := Lib.hid (HB2.out.trans (hb3.mono HB2.out.size))
    clear hi3 hb3 hi23 how
    go_wp2_with fail
    refine HW.out.mono ?_
    rintro e w4 ⟨v4, rfl, ho4, hb4⟩
    have hi4 := IsToks.of_own ho4
    have hi34 := (HI3.out.below hb4).more hb4.size
    have hsm := sameT_any v4 v3 O O true w4.heap.size w4 hi4 hi34 ⟨rfl, fun i x y hx hy => by rw [hx] at hy; cases hy; exact ⟨rfl, rfl, fun _ => rfl⟩⟩ (by omega)
    have HSM := Lib.hid hsm
    have HB4 := Lib.hid (HB3.out.trans (hb4.mono HB3.out.size))
    clear hi4 hi34 hsm ho4 hb4
    go_wp2_with fail
    refine HSM.out.mono ?_
    rintro e w5 ⟨rfl, hb5⟩
    have HB5 := Lib.hid (HB4.out.trans (hb5.mono HB4.out.size))
    clear hb5
    go_wp2
    go_ret
    exact ⟨rfl, HB5.out⟩
end Go.Proofs.Ytpjafemkdoeflaa
