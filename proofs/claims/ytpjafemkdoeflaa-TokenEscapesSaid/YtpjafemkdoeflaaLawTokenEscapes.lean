/-
  The law TokenEscapes: Escape, Unescape and Name.
-/
import Derived.Test.YtpjafemkdoeflaaTkV
namespace Go.Proofs.Ytpjafemkdoeflaa
open Go.RowKit

set_option maxRecDepth 100000 in
set_option maxHeartbeats 4000000 in
theorem law_TokenEscapes (s : ByteArray) (hs : s.size ≤ maxLen) (w : World) : Calls Try.prog 7 #[.string s] w (TrueP w) := by
  unfold maxLen at hs
  by_cases hl : 2000 < s.size
  · go_enter Try.func7, Try.ntmps7
    go_wp2_with fail
    refine (awake_any _).mono ?_
    rintro e w1 ⟨rfl, hb1⟩
    have HB1 := Lib.hid hb1
    clear hb1
    go_wp2
    go_ret
    exact ⟨rfl, HB1.out⟩
  · obtain ⟨l, hll⟩ : ∃ l, s.data.toList = l := ⟨_, rfl⟩
    have hsb := ba_of hll
    subst hsb
    have hsz : (ba l).size = l.length := rfl
    rw [hsz] at hl hs
    have hel := escL_len l
    obtain ⟨b1, b2⟩ := esc_back l
    have h1 := fun W => unescape_any l (by omega) W
    have h2 := fun W => runescape_any l (by omega) W
    have h3 := fun W => unescape_any (escL l) (by omega) W
    have h4 := fun W => escape_any (ba l) (by rw [hsz]; omega) W
    have h5 := fun W => rescape_any l (by omega) W
    have h6 := fun W => name_any (ba l) (by rw [hsz]; omega) W
    have h7 := fun W => rname_any (ba l) (by rw [hsz]; omega) W
    unfold UnP at h1 h2 h3
    unfold BoolP at h6 h7
    rw [ba_list] at h4
    obtain ⟨q1, q2, q3⟩ := un_good (l := escL l) (by omega)
    rw [q1, q2, q3, b2] at h3
    obtain ⟨U, hU⟩ : ∃ U, ba (unT l) = U := ⟨_, rfl⟩
    obtain ⟨A, hA⟩ : ∃ A, unA l = A := ⟨_, rfl⟩
    obtain ⟨E, hE⟩ : ∃ E, unE l = E := ⟨_, rfl⟩
    obtain ⟨X, hX⟩ : ∃ X, escL l = X := ⟨_, rfl⟩
    obtain ⟨B, hB⟩ : ∃ B, nameB l = B := ⟨_, rfl⟩
    rw [hU, hA, hE] at h1 h2
    rw [hX] at h3 h4 h5
    rw [ba_list, hB] at h6 h7
    have H1 := Lib.hid h1
    have H2 := Lib.hid h2
    have H3 := Lib.hid h3
    have H4 := Lib.hid h4
    have H5 := Lib.hid h5
    have H6 := Lib.hid h6
    have H7 := Lib.hid h7
    clear h1 h2 h3 h4 h5 h6 h7 hU hA hE hX hB b1 b2 q1 q2 q3 hll hel
    go_enter Try.func7, Try.ntmps7
    go_wp2_with fail
    refine (awake_any _).mono ?_
    rintro e w1 ⟨rfl, hb1⟩
    have HB1 := Lib.hid hb1
    clear hb1
    go_wp2_with fail
    refine (H1.out _).mono ?_
    rintro e w2 ⟨rfl, hb2⟩
    have HB2 := Lib.hid (HB1.out.trans (hb2.mono HB1.out.size))
    clear hb2
    go_wp2_with fail
    refine (H2.out _).mono ?_
    rintro e w3 ⟨rfl, hb3⟩
    have HB3 := Lib.hid (HB2.out.trans (hb3.mono HB2.out.size))
    clear hb3
    go_wp2_with fail
    refine (H4.out _).mono ?_
    rintro e w4 ⟨rfl, hb4⟩
    have HB4 := Lib.hid (HB3.out.trans (hb4.mono HB3.out.size))
    clear hb4
    go_wp2_with fail
    refine (H3.out _).mono ?_
    rintro e w5 ⟨rfl, hb5⟩
    have HB5 := Lib.hid (HB4.out.trans (hb5.mono HB4.out.size))
    clear hb5
    go_wp2_with fail
    refine (H4.out _).mono ?_
    rintro e w6 ⟨rfl, hb6⟩
    have HB6 := Lib.hid (HB5.out.trans (hb6.mono HB5.out.size))
    clear hb6
    go_wp2_with fail
    refine (H5.out _).mono ?_
    rintro e w7 ⟨rfl, hb7⟩
    have HB7 := Lib.hid (HB6.out.trans (hb7.mono HB6.out.size))
    clear hb7
    go_wp2_with fail
    refine (H6.out _).mono ?_
    rintro e wq ⟨rfl, rfl⟩
    go_wp2_with fail
    refine (H7.out _).mono ?_
    rintro e wq ⟨rfl, rfl⟩
    go_wp2
    go_ret
    exact ⟨by simp, HB7.out⟩
end Go.Proofs.Ytpjafemkdoeflaa
