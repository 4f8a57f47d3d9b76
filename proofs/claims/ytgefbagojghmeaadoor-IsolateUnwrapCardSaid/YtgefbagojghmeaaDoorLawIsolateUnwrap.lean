/-
  The law IsolateUnwrap: Unwrap returns what its reference returns, and every balanced string from its wrapped form.
-/
import Derived.Test.YtgefbagojghmeaaDoorLawIsolateStable
import Derived.Test.YtgefbagojghmeaaDoorUnw
namespace Go.Proofs.YtgefbagojghmeaaDoor
open Go.RowKit

theorem mid_ext (a t b : ByteArray) : (a ++ t ++ b).extract a.size (a.size + t.size) = t := by
  apply ByteArray.ext
  apply Array.toList_inj.1
  rw [Go.Lib.extract_data, ByteArray.data_append, ByteArray.data_append, Array.toList_append, Array.toList_append]
  have h1 : a.size = a.data.toList.length := rfl
  have h2 : t.size = t.data.toList.length := rfl
  rw [List.append_assoc, h1, List.drop_left, show a.data.toList.length + t.size - a.data.toList.length = t.size by omega, h2, List.take_left]
theorem end_ext (a t b : ByteArray) : (a ++ t ++ b).extract (a.size + t.size) (a.size + t.size + b.size) = b := by
  apply ByteArray.ext
  apply Array.toList_inj.1
  rw [Go.Lib.extract_data, ByteArray.data_append, ByteArray.data_append, Array.toList_append, Array.toList_append]
  have h1 : a.size + t.size = (a.data.toList ++ t.data.toList).length := by rw [List.length_append]; rfl
  have h3 : b.size = b.data.toList.length := rfl
  rw [show a.size + t.size + b.size - (a.size + t.size) = b.size by omega, h1, List.drop_left, h3, List.take_length]
theorem fst_ext (a t b : ByteArray) : (a ++ t ++ b).extract 0 a.size = a := by
  apply ByteArray.ext
  apply Array.toList_inj.1
  rw [Go.Lib.extract_data, ByteArray.data_append, ByteArray.data_append, Array.toList_append, Array.toList_append]
  have h1 : a.size = a.data.toList.length := rfl
  rw [List.append_assoc, List.drop_zero, Nat.sub_zero, h1, List.take_left]
theorem wrapL_size (s : ByteArray) : (encS (wrapL (ints (U8.els s.data.toList)))).size ≤ 4 * s.size + 40 := by
  have h0 := encS_size (wrapL (ints (U8.els s.data.toList)))
  have h5 := bal_len (ints (U8.els s.data.toList))
  have h3 := U8.els_len s.data.toList
  rw [U8.size_len] at h3
  have h4 : (ints (U8.els s.data.toList)).length = (U8.els s.data.toList).length := by unfold ints; rw [List.length_map]
  have h6 : (wrapL (ints (U8.els s.data.toList))).length = (bal (ints (U8.els s.data.toList))).length + 2 := by
    unfold wrapL
    simp
  omega
theorem unw_wrap (s : ByteArray) : unwV (encS (wrapL (ints (U8.els s.data.toList)))) = .tuple #[.string (balS s), .bool true] := by
  rw [wrapL_bytes]
  have e : encS (bal (ints (U8.els s.data.toList))) = balS s := rfl
  have hk := balS_ok s
  rw [e]
  obtain ⟨t, ht⟩ : ∃ t, balS s = t := ⟨_, rfl⟩
  rw [ht] at hk
  rw [ht]
  have z : (opnS ++ t ++ clsS).size = t.size + 6 := by
    rw [ByteArray.size_append, ByteArray.size_append]
    show 3 + t.size + 3 = _
    omega
  have e1 : (opnS ++ t ++ clsS).extract 0 3 = opnS := fst_ext opnS t clsS
  have e2 : (opnS ++ t ++ clsS).extract (t.size + 3) (t.size + 6) = clsS := by
    have := end_ext opnS t clsS
    rw [show opnS.size = 3 from rfl, show clsS.size = 3 from rfl, show 3 + t.size = t.size + 3 by omega] at this
    exact this
  have e3 : (opnS ++ t ++ clsS).extract 3 (t.size + 3) = t := by
    have := mid_ext opnS t clsS
    rw [show opnS.size = 3 from rfl, show 3 + t.size = t.size + 3 by omega] at this
    exact this
  show unwV (opnS ++ t ++ clsS) = _
  unfold unwV unwB
  rw [z, show t.size + 6 - 3 = t.size + 3 from rfl, e1, e2, e3, hk]
  simp

set_option maxRecDepth 100000 in
set_option maxHeartbeats 1000000 in
theorem law_IsolateUnwrap (s : ByteArray) (hs : s.size ≤ maxLen) (w : World) (hT : Tabs w) : Calls Tryd.prog 6 #[.string s] w (TrueP w) := by
  unfold maxLen at hs
  have HT := Lib.hid hT
  clear hT
  by_cases hl : 300 < s.size
  · go_enter Tryd.func6, Tryd.ntmps6
    go_wp2_with fail
    refine (awake24_any _).mono ?_
    rintro e w1 ⟨rfl, hb1⟩
    have HB1 := Lib.hid hb1
    clear hb1
    go_wp2_with fail
    refine (awake24_any _).mono ?_
    rintro e w2 ⟨rfl, hb2⟩
    have HB2 := Lib.hid (HB1.out.trans (hb2.mono HB1.out.size))
    clear hb2
    go_wp2
    go_ret
    exact ⟨rfl, HB2.out⟩
  · have hz := wrapL_size s
    have h1 := fun W h => unwrap_any s (by omega) W h
    have h2 := refunwrap_any s (by omega)
    have h3 := wrap_any s (by omega)
    have h4 := fun W h => unwrap_any (encS (wrapL (ints (U8.els s.data.toList)))) (by omega) W h
    have h5 := balance_any s (by omega)
    unfold WrapP at h3
    unfold BalanceP at h5
    have e0 : encS (bal (ints (U8.els s.data.toList))) = balS s := rfl
    rw [e0] at h5
    simp only [unw_wrap] at h4
    have hf : ∃ t b, unwV s = .tuple #[.string t, .bool b] := by unfold unwV; split <;> exact ⟨_, _, rfl⟩
    obtain ⟨t, b, hf⟩ := hf
    simp only [hf] at h1 h2
    obtain ⟨u, hu⟩ : ∃ u, encS (wrapL (ints (U8.els s.data.toList))) = u := ⟨_, rfl⟩
    obtain ⟨v, hv⟩ : ∃ v, balS s = v := ⟨_, rfl⟩
    simp only [hu] at h3 h4
    simp only [hv] at h4 h5
    have H1 := Lib.hid h1
    have H2 := Lib.hid h2
    have H3 := Lib.hid h3
    have H4 := Lib.hid h4
    have H5 := Lib.hid h5
    clear h1 h2 h3 h4 h5 e0 hf hu hv hz
    go_enter Tryd.func6, Tryd.ntmps6
    go_wp2_with fail
    refine (awake24_any _).mono ?_
    rintro e w1 ⟨rfl, hb1⟩
    have HB1 := Lib.hid hb1
    clear hb1
    go_wp2_with fail
    refine (H1.out _ (HT.out.below HB1.out)).mono ?_
    rintro e w2 ⟨rfl, hb2⟩
    have HB2 := Lib.hid (HB1.out.trans (hb2.mono HB1.out.size))
    clear hb2
    go_wp2_with fail
    refine (H2.out _).mono ?_
    rintro e w3 ⟨rfl, hb3⟩
    have HB3 := Lib.hid (HB2.out.trans (hb3.mono HB2.out.size))
    clear hb3
    go_wp2_with fail
    refine (H3.out _).mono ?_
    rintro e w4 ⟨rfl, hb4⟩
    have HB4 := Lib.hid (HB3.out.trans (hb4.mono HB3.out.size))
    clear hb4
    go_wp2_with fail
    refine (H4.out _ (HT.out.below HB4.out)).mono ?_
    rintro e w5 ⟨rfl, hb5⟩
    have HB5 := Lib.hid (HB4.out.trans (hb5.mono HB4.out.size))
    clear hb5
    cases b
    · skip
      go_wp2_with fail
      refine (H5.out _).mono ?_
      rintro e w6 ⟨rfl, hb6⟩
      have HB6 := Lib.hid (HB5.out.trans (hb6.mono HB5.out.size))
      clear hb6
      go_wp2
      go_ret
      exact ⟨by simp, HB6.out⟩
    · skip
      go_wp2_with fail
      refine (H5.out _).mono ?_
      rintro e w6 ⟨rfl, hb6⟩
      have HB6 := Lib.hid (HB5.out.trans (hb6.mono HB5.out.size))
      clear hb6
      go_wp2
      go_ret
      exact ⟨by simp, HB6.out⟩
end Go.Proofs.YtgefbagojghmeaaDoor
