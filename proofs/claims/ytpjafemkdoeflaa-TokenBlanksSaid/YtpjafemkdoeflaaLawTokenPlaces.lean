/-
  The law TokenPlaces: tokens are in order, with only skipped characters between them.
-/
import Derived.Test.YtpjafemkdoeflaaLawTokenTexts
import Derived.Test.YtpjafemkdoeflaaTkQ
namespace Go.Proofs.Ytpjafemkdoeflaa
open Go.RowKit

theorem good_here {l : By} {e d : Nat} {pt : Bool} {O : List Tok} {i : Nat} (h : Good l e d pt (O.drop i)) (hi : i < O.length) : ∃ x, O[i]? = some x ∧ e ≤ x.2.2.1 ∧ x.2.2.1 < x.2.2.2 ∧ x.2.2.2 ≤ l.length ∧ (d % 2 = 0 → x.2.2.1 = e) ∧ (pt = true → x.1 ≠ 1) ∧ (∀ k, e ≤ k → k < x.2.2.1 → blB (l.getD k 0) = true) ∧
    (x.1 ≠ 5 → x.1 ≠ 6 → x.1 ≠ 7 → (l.drop x.2.2.1).take (x.2.2.2 - x.2.2.1) = x.2.1) ∧ (x.1 = 3 → d ≠ 0) ∧ (1 ≤ x.1 ∧ x.1 ≤ 9) ∧ Good l x.2.2.2 (newD x.1 d) (x.1 == 1) (O.drop (i + 1)) := by
  rw [List.drop_eq_getElem_cons hi] at h
  exact ⟨O[i], List.getElem?_eq_getElem hi, h⟩
theorem bdrew {B : Nat} {a w : World} (h : Below B a w) : Below B a w.drew := ⟨h.os, h.tape, h.output, h.size, h.block⟩
theorem bl_at {l : By} {k : Nat} (hk : k < (ba l).size) : ((ba l)[k]'hk) = l.getD k 0 := by
  have h := head_get (l := l) hk
  have hk' : k < l.length := hk
  rw [List.drop_eq_getElem_cons hk'] at h
  injection h with h
  rw [← h]
  simp [List.getD, hk']

set_option maxRecDepth 100000 in
set_option maxHeartbeats 16000000 in
theorem law_TokenPlaces (s : ByteArray) (hs : s.size ≤ maxLen) (w : World) : Calls Try.prog 4 #[.string s] w (TrueP w) := by
  unfold maxLen at hs
  by_cases hl : 4000 < s.size
  · go_enter Try.func4, Try.ntmps4
    go_wp2_with fail
    refine (awake_any _).mono ?_
    rintro e w1 ⟨rfl, hb1⟩
    have HB1 := Lib.hid hb1
    clear hb1
    go_wp2
    go_ret
    exact ⟨rfl, HB1.out⟩
  · obtain ⟨l, hll⟩ : ∃ l, s.data.toList = l := ⟨_, rfl⟩
    have hsb := ba_of hll
    subst hsb
    have hsz : (ba l).size = l.length := rfl
    rw [hsz] at hl hs
    have h1 := fun W => tokens_any l (by omega) W
    unfold ToksP at h1
    have hol := outL_len l
    cases he : (toks l).2 with
    | some p =>
      obtain ⟨q1, q2, q3⟩ := toks_bad hl he
      have hpe := toks_err _ _ _ _ _ he
      rw [q1, q2, q3] at h1
      have H1 := Lib.hid h1
      have hp0 : (0 : Int) ≤ (p : Int) := by omega
      have hp1 : (p : Int) ≤ (l.length : Int) := by omega
      clear h1 q1 q2 q3 hll he hol hpe
      go_enter Try.func4, Try.ntmps4
      go_wp2_with fail
      refine (awake_any _).mono ?_
      rintro e w1 ⟨rfl, hb1⟩
      have HB1 := Lib.hid hb1
      clear hb1
      go_wp2_with fail
      refine (H1.out _).mono ?_
      rintro e w2 ⟨v2, rfl, ⟨ao, ca, rfl, _⟩, hb2⟩
      have HB2 := Lib.hid (HB1.out.trans (hb2.mono HB1.out.size))
      clear hb2
      go_wp2
      go_ret
      exact ⟨by simp, HB2.out⟩
    | none =>
      obtain ⟨q1, q2, q3⟩ := toks_good hl rfl he
      have hgood := toks_places l (l.length + 1) 0 0 0 false (toks l).1 (by rw [List.drop_zero]; exact Prod.ext rfl he) (Nat.zero_le _) (Nat.le_refl _) (fun _ => rfl) (fun k h1 h2 => by omega) (fun h => by cases h)
      rw [q1] at hol
      rw [q1, q2, q3] at h1
      obtain ⟨O, hO⟩ : ∃ O, (toks l).1 = O := ⟨_, rfl⟩
      rw [hO] at hgood hol
      simp only [hO] at h1
      have H1 := Lib.hid h1
      have HG := Lib.hid hgood
      obtain ⟨n, hn⟩ : ∃ n, n = O.length := ⟨_, rfl⟩
      rw [← hn] at hol
      have HN := Lib.hid hn
      clear h1 q1 q2 q3 hll he hgood hO hn
      go_enter Try.func4, Try.ntmps4
      go_wp2_with fail
      refine (awake_any _).mono ?_
      rintro e w1 ⟨rfl, hb1⟩
      have HB1 := Lib.hid hb1
      clear hb1
      go_wp2_with fail
      refine (H1.out _).mono ?_
      rintro e w2 ⟨v2, rfl, ⟨ao, ca, rfl, hc⟩, hb2⟩
      rw [← HN.out] at hc
      rw [← HN.out]
      have HC := Lib.hid hc
      have HB2 := Lib.hid (HB1.out.trans (hb2.mono HB1.out.size))
      clear hb2 hc
      go_wp2
      go_loopw [6, 7, 8, 9, 10] (fun ev dv iv _ _ wr => ∃ (i e d : Nat) (pt : Bool), i ≤ n ∧ iv = .int .i64 i ∧ ev = .int .i64 e ∧ dv = .int .i64 d ∧ Good l e d pt (O.drop i) ∧ (∀ j x, i = j + 1 → O[j]? = some x → pt = (x.1 == 1)) ∧ d ≤ i ∧ Below w2.heap.size w2 wr) (fun _ _ iv _ _ _ => n - (intOf iv).toNat)
      case atStart => exact ⟨0, 0, 0, false, Nat.zero_le _, rfl, rfl, rfl, HG.out, fun j x h => by omega, Nat.le_refl _, Below.refl _ _⟩
      case round =>
        obtain ⟨i, e, d, pt, hi, rfl, rfl, rfl, hg, hpt, hdi, hb⟩ := hrel
        have i0 : (0 : Int) ≤ (i : Int) := by omega
        have d0 : (0 : Int) ≤ (d : Int) := by omega
        by_cases hlt : i < n
        · have i1 : (i : Int) < (n : Int) := by omega
          obtain ⟨b, o, rfl, hbB, hcl⟩ := HC.out (by omega)
          obtain ⟨⟨k, t, fr, tz⟩, hx, g1, g2, g3, g4, g5, g6, g7, g8, g9, g10⟩ := good_here hg (by have := HN.out; omega)
          dsimp only at g1 g2 g3 g4 g5 g6 g7 g8 g9 g10
          obtain ⟨e0, e1, e2, e3⟩ := hcl i _ hx
          dsimp only at e0 e1 e2 e3
          have c0 := (hb.cell (p := ⟨b, o + i * 4, none⟩) hbB).trans e0
          have c1 := (hb.cell (p := ⟨b, o + i * 4 + 1, none⟩) hbB).trans e1
          have c2 := (hb.cell (p := ⟨b, o + i * 4 + 2, none⟩) hbB).trans e2
          have c3 := (hb.cell (p := ⟨b, o + i * 4 + 3, none⟩) hbB).trans e3
          have hprev : k = 1 → i = 0 ∨ ∃ j k', i = j + 1 ∧ ((k' : Nat) : Int) ≠ 1 ∧ ∀ W, Below w2.heap.size w2 W → W.cell? ⟨b, o + j * 4, none⟩ = some (.int .i64 k') := by
            intro hk
            rcases Nat.eq_zero_or_pos i with h | h
            · exact .inl h
            · right
              obtain ⟨j, rfl⟩ : ∃ j, i = j + 1 := ⟨i - 1, by omega⟩
              have hjl : j < O.length := by have := HN.out; omega
              have hp := hpt j O[j] rfl (List.getElem?_eq_getElem hjl)
              obtain ⟨e0, _⟩ := hcl j _ (List.getElem?_eq_getElem hjl)
              refine ⟨j, O[j].1, rfl, ?_, fun W hW => (hW.cell (p := ⟨b, o + j * 4, none⟩) hbB).trans e0⟩
              intro h1
              have : O[j].1 = 1 := by omega
              rw [this] at hp
              exact g5 (by rw [hp]; rfl) hk
          have hnext : ∀ j x, i + 1 = j + 1 → O[j]? = some x → (k == 1) = (x.1 == 1) := by
            intro j x h1 h2
            have : j = i := by omega
            rw [this, hx] at h2
            cases h2
            rfl
          have hbl : ∀ q, e ≤ q → q < fr → ∀ hq : q < (ba l).size, blI (((ba l)[q]'hq).toNat : Int) = true := by
            intro q h1 h2 hq
            have := g6 q h1 h2
            rw [← bl_at hq] at this
            exact this
          have hcut : k ≠ 5 → k ≠ 6 → k ≠ 7 → (ba l).extract fr tz = ba t := by
            intro h5 h6 h7
            rw [ba_ext (ba_list l), g7 h5 h6 h7]
          have hpar : (((fr : Int) != (e : Int)) = false ∧ (d : Int).tmod 2 = 0) ∨ (d : Int).tmod 2 = 1 := by
            have h := Int.tmod_eq_emod_of_nonneg (a := (d : Int)) (b := 2) d0
            rcases (show d % 2 = 0 ∨ d % 2 = 1 by omega) with h2 | h2
            · exact .inl ⟨by rw [g4 h2]; simp, by rw [h]; omega⟩
            · exact .inr (by rw [h]; omega)
          have HBL := Lib.hid hbl
          have HNX := Lib.hid hnext
          have HG10 := Lib.hid g10
          have HBW := Lib.hid hb
          have f1 : ¬ (fr : Int) < (e : Int) := by omega
          have f2 : ¬ (tz : Int) ≤ (fr : Int) := by omega
          have f3 : ¬ (l.length : Int) < (tz : Int) := by omega
          have f4 : (fr : Int) ≤ (tz : Int) := by omega
          have f5 : (tz : Int) ≤ (l.length : Int) := by omega
          have f6 : (e : Int) ≤ (fr : Int) := by omega
          have hsW := hb.size
          clear hcl e0 e1 e2 e3 hpt hnext hbl g4 g5 g6 g7 g10 hg hx
          obtain ⟨k1, k9⟩ := g9
          have hkk : k = 1 ∨ k = 2 ∨ k = 3 ∨ k = 4 ∨ k = 5 ∨ k = 6 ∨ k = 7 ∨ k = 8 ∨ k = 9 := by omega
          have hg8 : k = 3 → (1 : Int) ≤ (d : Int) := fun h => by have := g8 h; omega
          clear g8
          rcases hkk with rfl | rfl | rfl | rfl | rfl | rfl | rfl | rfl | rfl
          · rcases hprev rfl with hz | ⟨j, k', rfl, hk', hcp⟩
            · have hi0 : ¬ (0 : Int) < (i : Int) := by omega
              clear hprev hz
              rcases hpar with ⟨hne, hm⟩ | hm
              all_goals
                first | (have hd1 := hg8 rfl) | skip
                first | (have hcut := hcut (by decide) (by decide) (by decide)) | clear hcut
                go_wp2
                go_loopw [10] (fun kv wr2 => ∃ q : Nat, e ≤ q ∧ q ≤ fr ∧ kv = .int .i64 q ∧ wr2 = wr.alloc (.cells #[.int .i64 1, .string (ba t), .int .i64 fr, .int .i64 tz] 34)) (fun kv _ => fr - (intOf kv).toNat)
                case atStart => exact ⟨e, Nat.le_refl _, by omega, rfl, rfl⟩
                case round =>
                  obtain ⟨q, hq1, hq2, rfl, rfl⟩ := hrel
                  have q0 : (0 : Int) ≤ (q : Int) := by omega
                  by_cases hqf : q < fr
                  · have q1 : (q : Int) < (fr : Int) := by omega
                    have q2 : (q : Int) < (l.length : Int) := by omega
                    have hqs : q < (ba l).size := by rw [hsz]; omega
                    obtain ⟨y, hy⟩ : ∃ y : Nat, ((ba l)[q]'hqs).toNat = y := ⟨_, rfl⟩
                    have hby := HBL.out q hq1 hqf hqs
                    rw [hy] at hby
                    have hbk := fun W => blank_any (y : Int) W
                    unfold BoolP at hbk
                    rw [hby] at hbk
                    have HBK := Lib.hid hbk
                    clear hbk hby
                    go_wp2_with fail
                    refine (HBK.out _).mono ?_
                    rintro ex w1 ⟨rfl, rfl⟩
                    go_wp2
                    go_roundw
                    case rel => exact ⟨q + 1, by omega, by omega, by go_num, trivial⟩
                    case measure => simp [intOf] <;> omega
                  · have q1 : (fr : Int) ≤ (q : Int) := by omega
                    go_wp2
                    go_region
                    go_wp2
                    go_roundw
                    case rel => exact ⟨i + 1, tz, newD 1 d, (1 == 1), by omega, by go_num, rfl, by rfl, HG10.out, HNX.out, by (show d ≤ i + 1; omega), bdrew (HBW.out.alloc hsW _)⟩
                    case measure => simp [intOf] <;> omega
            · have hcp2 := hcp _ (HBW.out.alloc hsW (.cells #[.int .i64 1, .string (ba t), .int .i64 fr, .int .i64 tz] 34))
              have hk1 : ((k' : Int) == 1) = false := by simpa using hk'
              clear hcp hk'
              clear hprev
              rcases hpar with ⟨hne, hm⟩ | hm
              all_goals
                first | (have hd1 := hg8 rfl) | skip
                first | (have hcut := hcut (by decide) (by decide) (by decide)) | clear hcut
                go_wp2
                go_loopw [10] (fun kv wr2 => ∃ q : Nat, e ≤ q ∧ q ≤ fr ∧ kv = .int .i64 q ∧ wr2 = wr.alloc (.cells #[.int .i64 1, .string (ba t), .int .i64 fr, .int .i64 tz] 34)) (fun kv _ => fr - (intOf kv).toNat)
                case atStart => exact ⟨e, Nat.le_refl _, by omega, rfl, rfl⟩
                case round =>
                  obtain ⟨q, hq1, hq2, rfl, rfl⟩ := hrel
                  have q0 : (0 : Int) ≤ (q : Int) := by omega
                  by_cases hqf : q < fr
                  · have q1 : (q : Int) < (fr : Int) := by omega
                    have q2 : (q : Int) < (l.length : Int) := by omega
                    have hqs : q < (ba l).size := by rw [hsz]; omega
                    obtain ⟨y, hy⟩ : ∃ y : Nat, ((ba l)[q]'hqs).toNat = y := ⟨_, rfl⟩
                    have hby := HBL.out q hq1 hqf hqs
                    rw [hy] at hby
                    have hbk := fun W => blank_any (y : Int) W
                    unfold BoolP at hbk
                    rw [hby] at hbk
                    have HBK := Lib.hid hbk
                    clear hbk hby
                    go_wp2_with fail
                    refine (HBK.out _).mono ?_
                    rintro ex w1 ⟨rfl, rfl⟩
                    go_wp2
                    go_roundw
                    case rel => exact ⟨q + 1, by omega, by omega, by go_num, trivial⟩
                    case measure => simp [intOf] <;> omega
                  · have q1 : (fr : Int) ≤ (q : Int) := by omega
                    go_wp2
                    go_region
                    go_wp2
                    go_roundw
                    case rel => exact ⟨j + 1 + 1, tz, newD 1 d, (1 == 1), by omega, by go_num, rfl, by rfl, HG10.out, HNX.out, by (show d ≤ j + 1 + 1; omega), bdrew (HBW.out.alloc hsW _)⟩
                    case measure => simp [intOf] <;> omega
          · clear hprev
            rcases hpar with ⟨hne, hm⟩ | hm
            all_goals
              first | (have hd1 := hg8 rfl) | skip
              first | (have hcut := hcut (by decide) (by decide) (by decide)) | clear hcut
              go_wp2
              go_loopw [10] (fun kv wr2 => ∃ q : Nat, e ≤ q ∧ q ≤ fr ∧ kv = .int .i64 q ∧ wr2 = wr.alloc (.cells #[.int .i64 2, .string (ba t), .int .i64 fr, .int .i64 tz] 34)) (fun kv _ => fr - (intOf kv).toNat)
              case atStart => exact ⟨e, Nat.le_refl _, by omega, rfl, rfl⟩
              case round =>
                obtain ⟨q, hq1, hq2, rfl, rfl⟩ := hrel
                have q0 : (0 : Int) ≤ (q : Int) := by omega
                by_cases hqf : q < fr
                · have q1 : (q : Int) < (fr : Int) := by omega
                  have q2 : (q : Int) < (l.length : Int) := by omega
                  have hqs : q < (ba l).size := by rw [hsz]; omega
                  obtain ⟨y, hy⟩ : ∃ y : Nat, ((ba l)[q]'hqs).toNat = y := ⟨_, rfl⟩
                  have hby := HBL.out q hq1 hqf hqs
                  rw [hy] at hby
                  have hbk := fun W => blank_any (y : Int) W
                  unfold BoolP at hbk
                  rw [hby] at hbk
                  have HBK := Lib.hid hbk
                  clear hbk hby
                  go_wp2_with fail
                  refine (HBK.out _).mono ?_
                  rintro ex w1 ⟨rfl, rfl⟩
                  go_wp2
                  go_roundw
                  case rel => exact ⟨q + 1, by omega, by omega, by go_num, trivial⟩
                  case measure => simp [intOf] <;> omega
                · have q1 : (fr : Int) ≤ (q : Int) := by omega
                  go_wp2
                  go_region
                  go_wp2
                  go_roundw
                  case rel => exact ⟨i + 1, tz, newD 2 d, (2 == 1), by omega, by go_num, rfl, by (show Value.int .i64 ((d : Int) + 1) = Value.int .i64 ((d + 1 : Nat) : Int); rfl), HG10.out, HNX.out, by (show d + 1 ≤ i + 1; omega), bdrew (HBW.out.alloc hsW _)⟩
                  case measure => simp [intOf] <;> omega
          · clear hprev
            rcases hpar with ⟨hne, hm⟩ | hm
            all_goals
              first | (have hd1 := hg8 rfl) | skip
              first | (have hcut := hcut (by decide) (by decide) (by decide)) | clear hcut
              go_wp2
              go_loopw [10] (fun kv wr2 => ∃ q : Nat, e ≤ q ∧ q ≤ fr ∧ kv = .int .i64 q ∧ wr2 = wr.alloc (.cells #[.int .i64 3, .string (ba t), .int .i64 fr, .int .i64 tz] 34)) (fun kv _ => fr - (intOf kv).toNat)
              case atStart => exact ⟨e, Nat.le_refl _, by omega, rfl, rfl⟩
              case round =>
                obtain ⟨q, hq1, hq2, rfl, rfl⟩ := hrel
                have q0 : (0 : Int) ≤ (q : Int) := by omega
                by_cases hqf : q < fr
                · have q1 : (q : Int) < (fr : Int) := by omega
                  have q2 : (q : Int) < (l.length : Int) := by omega
                  have hqs : q < (ba l).size := by rw [hsz]; omega
                  obtain ⟨y, hy⟩ : ∃ y : Nat, ((ba l)[q]'hqs).toNat = y := ⟨_, rfl⟩
                  have hby := HBL.out q hq1 hqf hqs
                  rw [hy] at hby
                  have hbk := fun W => blank_any (y : Int) W
                  unfold BoolP at hbk
                  rw [hby] at hbk
                  have HBK := Lib.hid hbk
                  clear hbk hby
                  go_wp2_with fail
                  refine (HBK.out _).mono ?_
                  rintro ex w1 ⟨rfl, rfl⟩
                  go_wp2
                  go_roundw
                  case rel => exact ⟨q + 1, by omega, by omega, by go_num, trivial⟩
                  case measure => simp [intOf] <;> omega
                · have q1 : (fr : Int) ≤ (q : Int) := by omega
                  go_wp2
                  go_region
                  go_wp2
                  go_roundw
                  case rel => exact ⟨i + 1, tz, newD 3 d, (3 == 1), by omega, by go_num, rfl, by (show Value.int .i64 ((d : Int) - 1) = Value.int .i64 ((d - 1 : Nat) : Int); congr 1; omega), HG10.out, HNX.out, by (show d - 1 ≤ i + 1; omega), bdrew (HBW.out.alloc hsW _)⟩
                  case measure => simp [intOf] <;> omega
          · clear hprev
            rcases hpar with ⟨hne, hm⟩ | hm
            all_goals
              first | (have hd1 := hg8 rfl) | skip
              first | (have hcut := hcut (by decide) (by decide) (by decide)) | clear hcut
              go_wp2
              go_loopw [10] (fun kv wr2 => ∃ q : Nat, e ≤ q ∧ q ≤ fr ∧ kv = .int .i64 q ∧ wr2 = wr.alloc (.cells #[.int .i64 4, .string (ba t), .int .i64 fr, .int .i64 tz] 34)) (fun kv _ => fr - (intOf kv).toNat)
              case atStart => exact ⟨e, Nat.le_refl _, by omega, rfl, rfl⟩
              case round =>
                obtain ⟨q, hq1, hq2, rfl, rfl⟩ := hrel
                have q0 : (0 : Int) ≤ (q : Int) := by omega
                by_cases hqf : q < fr
                · have q1 : (q : Int) < (fr : Int) := by omega
                  have q2 : (q : Int) < (l.length : Int) := by omega
                  have hqs : q < (ba l).size := by rw [hsz]; omega
                  obtain ⟨y, hy⟩ : ∃ y : Nat, ((ba l)[q]'hqs).toNat = y := ⟨_, rfl⟩
                  have hby := HBL.out q hq1 hqf hqs
                  rw [hy] at hby
                  have hbk := fun W => blank_any (y : Int) W
                  unfold BoolP at hbk
                  rw [hby] at hbk
                  have HBK := Lib.hid hbk
                  clear hbk hby
                  go_wp2_with fail
                  refine (HBK.out _).mono ?_
                  rintro ex w1 ⟨rfl, rfl⟩
                  go_wp2
                  go_roundw
                  case rel => exact ⟨q + 1, by omega, by omega, by go_num, trivial⟩
                  case measure => simp [intOf] <;> omega
                · have q1 : (fr : Int) ≤ (q : Int) := by omega
                  go_wp2
                  go_region
                  go_wp2
                  go_roundw
                  case rel => exact ⟨i + 1, tz, newD 4 d, (4 == 1), by omega, by go_num, rfl, by rfl, HG10.out, HNX.out, by (show d ≤ i + 1; omega), bdrew (HBW.out.alloc hsW _)⟩
                  case measure => simp [intOf] <;> omega
          · clear hprev
            rcases hpar with ⟨hne, hm⟩ | hm
            all_goals
              first | (have hd1 := hg8 rfl) | skip
              first | (have hcut := hcut (by decide) (by decide) (by decide)) | clear hcut
              go_wp2
              go_loopw [10] (fun kv wr2 => ∃ q : Nat, e ≤ q ∧ q ≤ fr ∧ kv = .int .i64 q ∧ wr2 = wr.alloc (.cells #[.int .i64 5, .string (ba t), .int .i64 fr, .int .i64 tz] 34)) (fun kv _ => fr - (intOf kv).toNat)
              case atStart => exact ⟨e, Nat.le_refl _, by omega, rfl, rfl⟩
              case round =>
                obtain ⟨q, hq1, hq2, rfl, rfl⟩ := hrel
                have q0 : (0 : Int) ≤ (q : Int) := by omega
                by_cases hqf : q < fr
                · have q1 : (q : Int) < (fr : Int) := by omega
                  have q2 : (q : Int) < (l.length : Int) := by omega
                  have hqs : q < (ba l).size := by rw [hsz]; omega
                  obtain ⟨y, hy⟩ : ∃ y : Nat, ((ba l)[q]'hqs).toNat = y := ⟨_, rfl⟩
                  have hby := HBL.out q hq1 hqf hqs
                  rw [hy] at hby
                  have hbk := fun W => blank_any (y : Int) W
                  unfold BoolP at hbk
                  rw [hby] at hbk
                  have HBK := Lib.hid hbk
                  clear hbk hby
                  go_wp2_with fail
                  refine (HBK.out _).mono ?_
                  rintro ex w1 ⟨rfl, rfl⟩
                  go_wp2
                  go_roundw
                  case rel => exact ⟨q + 1, by omega, by omega, by go_num, trivial⟩
                  case measure => simp [intOf] <;> omega
                · have q1 : (fr : Int) ≤ (q : Int) := by omega
                  go_wp2
                  go_region
                  go_wp2
                  go_roundw
                  case rel => exact ⟨i + 1, tz, newD 5 d, (5 == 1), by omega, by go_num, rfl, by rfl, HG10.out, HNX.out, by (show d ≤ i + 1; omega), bdrew (HBW.out.alloc hsW _)⟩
                  case measure => simp [intOf] <;> omega
          · clear hprev
            rcases hpar with ⟨hne, hm⟩ | hm
            all_goals
              first | (have hd1 := hg8 rfl) | skip
              first | (have hcut := hcut (by decide) (by decide) (by decide)) | clear hcut
              go_wp2
              go_loopw [10] (fun kv wr2 => ∃ q : Nat, e ≤ q ∧ q ≤ fr ∧ kv = .int .i64 q ∧ wr2 = wr.alloc (.cells #[.int .i64 6, .string (ba t), .int .i64 fr, .int .i64 tz] 34)) (fun kv _ => fr - (intOf kv).toNat)
              case atStart => exact ⟨e, Nat.le_refl _, by omega, rfl, rfl⟩
              case round =>
                obtain ⟨q, hq1, hq2, rfl, rfl⟩ := hrel
                have q0 : (0 : Int) ≤ (q : Int) := by omega
                by_cases hqf : q < fr
                · have q1 : (q : Int) < (fr : Int) := by omega
                  have q2 : (q : Int) < (l.length : Int) := by omega
                  have hqs : q < (ba l).size := by rw [hsz]; omega
                  obtain ⟨y, hy⟩ : ∃ y : Nat, ((ba l)[q]'hqs).toNat = y := ⟨_, rfl⟩
                  have hby := HBL.out q hq1 hqf hqs
                  rw [hy] at hby
                  have hbk := fun W => blank_any (y : Int) W
                  unfold BoolP at hbk
                  rw [hby] at hbk
                  have HBK := Lib.hid hbk
                  clear hbk hby
                  go_wp2_with fail
                  refine (HBK.out _).mono ?_
                  rintro ex w1 ⟨rfl, rfl⟩
                  go_wp2
                  go_roundw
                  case rel => exact ⟨q + 1, by omega, by omega, by go_num, trivial⟩
                  case measure => simp [intOf] <;> omega
                · have q1 : (fr : Int) ≤ (q : Int) := by omega
                  go_wp2
                  go_region
                  go_wp2
                  go_roundw
                  case rel => exact ⟨i + 1, tz, newD 6 d, (6 == 1), by omega, by go_num, rfl, by rfl, HG10.out, HNX.out, by (show d ≤ i + 1; omega), bdrew (HBW.out.alloc hsW _)⟩
                  case measure => simp [intOf] <;> omega
          · clear hprev
            rcases hpar with ⟨hne, hm⟩ | hm
            all_goals
              first | (have hd1 := hg8 rfl) | skip
              first | (have hcut := hcut (by decide) (by decide) (by decide)) | clear hcut
              go_wp2
              go_loopw [10] (fun kv wr2 => ∃ q : Nat, e ≤ q ∧ q ≤ fr ∧ kv = .int .i64 q ∧ wr2 = wr.alloc (.cells #[.int .i64 7, .string (ba t), .int .i64 fr, .int .i64 tz] 34)) (fun kv _ => fr - (intOf kv).toNat)
              case atStart => exact ⟨e, Nat.le_refl _, by omega, rfl, rfl⟩
              case round =>
                obtain ⟨q, hq1, hq2, rfl, rfl⟩ := hrel
                have q0 : (0 : Int) ≤ (q : Int) := by omega
                by_cases hqf : q < fr
                · have q1 : (q : Int) < (fr : Int) := by omega
                  have q2 : (q : Int) < (l.length : Int) := by omega
                  have hqs : q < (ba l).size := by rw [hsz]; omega
                  obtain ⟨y, hy⟩ : ∃ y : Nat, ((ba l)[q]'hqs).toNat = y := ⟨_, rfl⟩
                  have hby := HBL.out q hq1 hqf hqs
                  rw [hy] at hby
                  have hbk := fun W => blank_any (y : Int) W
                  unfold BoolP at hbk
                  rw [hby] at hbk
                  have HBK := Lib.hid hbk
                  clear hbk hby
                  go_wp2_with fail
                  refine (HBK.out _).mono ?_
                  rintro ex w1 ⟨rfl, rfl⟩
                  go_wp2
                  go_roundw
                  case rel => exact ⟨q + 1, by omega, by omega, by go_num, trivial⟩
                  case measure => simp [intOf] <;> omega
                · have q1 : (fr : Int) ≤ (q : Int) := by omega
                  go_wp2
                  go_region
                  go_wp2
                  go_roundw
                  case rel => exact ⟨i + 1, tz, newD 7 d, (7 == 1), by omega, by go_num, rfl, by rfl, HG10.out, HNX.out, by (show d ≤ i + 1; omega), bdrew (HBW.out.alloc hsW _)⟩
                  case measure => simp [intOf] <;> omega
          · clear hprev
            rcases hpar with ⟨hne, hm⟩ | hm
            all_goals
              first | (have hd1 := hg8 rfl) | skip
              first | (have hcut := hcut (by decide) (by decide) (by decide)) | clear hcut
              go_wp2
              go_loopw [10] (fun kv wr2 => ∃ q : Nat, e ≤ q ∧ q ≤ fr ∧ kv = .int .i64 q ∧ wr2 = wr.alloc (.cells #[.int .i64 8, .string (ba t), .int .i64 fr, .int .i64 tz] 34)) (fun kv _ => fr - (intOf kv).toNat)
              case atStart => exact ⟨e, Nat.le_refl _, by omega, rfl, rfl⟩
              case round =>
                obtain ⟨q, hq1, hq2, rfl, rfl⟩ := hrel
                have q0 : (0 : Int) ≤ (q : Int) := by omega
                by_cases hqf : q < fr
                · have q1 : (q : Int) < (fr : Int) := by omega
                  have q2 : (q : Int) < (l.length : Int) := by omega
                  have hqs : q < (ba l).size := by rw [hsz]; omega
                  obtain ⟨y, hy⟩ : ∃ y : Nat, ((ba l)[q]'hqs).toNat = y := ⟨_, rfl⟩
                  have hby := HBL.out q hq1 hqf hqs
                  rw [hy] at hby
                  have hbk := fun W => blank_any (y : Int) W
                  unfold BoolP at hbk
                  rw [hby] at hbk
                  have HBK := Lib.hid hbk
                  clear hbk hby
                  go_wp2_with fail
                  refine (HBK.out _).mono ?_
                  rintro ex w1 ⟨rfl, rfl⟩
                  go_wp2
                  go_roundw
                  case rel => exact ⟨q + 1, by omega, by omega, by go_num, trivial⟩
                  case measure => simp [intOf] <;> omega
                · have q1 : (fr : Int) ≤ (q : Int) := by omega
                  go_wp2
                  go_region
                  go_wp2
                  go_roundw
                  case rel => exact ⟨i + 1, tz, newD 8 d, (8 == 1), by omega, by go_num, rfl, by rfl, HG10.out, HNX.out, by (show d ≤ i + 1; omega), bdrew (HBW.out.alloc hsW _)⟩
                  case measure => simp [intOf] <;> omega
          · clear hprev
            rcases hpar with ⟨hne, hm⟩ | hm
            all_goals
              first | (have hd1 := hg8 rfl) | skip
              first | (have hcut := hcut (by decide) (by decide) (by decide)) | clear hcut
              go_wp2
              go_loopw [10] (fun kv wr2 => ∃ q : Nat, e ≤ q ∧ q ≤ fr ∧ kv = .int .i64 q ∧ wr2 = wr.alloc (.cells #[.int .i64 9, .string (ba t), .int .i64 fr, .int .i64 tz] 34)) (fun kv _ => fr - (intOf kv).toNat)
              case atStart => exact ⟨e, Nat.le_refl _, by omega, rfl, rfl⟩
              case round =>
                obtain ⟨q, hq1, hq2, rfl, rfl⟩ := hrel
                have q0 : (0 : Int) ≤ (q : Int) := by omega
                by_cases hqf : q < fr
                · have q1 : (q : Int) < (fr : Int) := by omega
                  have q2 : (q : Int) < (l.length : Int) := by omega
                  have hqs : q < (ba l).size := by rw [hsz]; omega
                  obtain ⟨y, hy⟩ : ∃ y : Nat, ((ba l)[q]'hqs).toNat = y := ⟨_, rfl⟩
                  have hby := HBL.out q hq1 hqf hqs
                  rw [hy] at hby
                  have hbk := fun W => blank_any (y : Int) W
                  unfold BoolP at hbk
                  rw [hby] at hbk
                  have HBK := Lib.hid hbk
                  clear hbk hby
                  go_wp2_with fail
                  refine (HBK.out _).mono ?_
                  rintro ex w1 ⟨rfl, rfl⟩
                  go_wp2
                  go_roundw
                  case rel => exact ⟨q + 1, by omega, by omega, by go_num, trivial⟩
                  case measure => simp [intOf] <;> omega
                · have q1 : (fr : Int) ≤ (q : Int) := by omega
                  go_wp2
                  go_region
                  go_wp2
                  go_roundw
                  case rel => exact ⟨i + 1, tz, newD 9 d, (9 == 1), by omega, by go_num, rfl, by rfl, HG10.out, HNX.out, by (show d ≤ i + 1; omega), bdrew (HBW.out.alloc hsW _)⟩
                  case measure => simp [intOf] <;> omega
        · have hin : i = n := by omega
          have hd : O.drop i = [] := List.drop_eq_nil_of_le (by have := HN.out; omega)
          rw [hd] at hg
          obtain ⟨rfl, rfl⟩ := hg
          have i1 : (n : Int) ≤ (i : Int) := by omega
          have HBW := Lib.hid hb
          clear hb hpt hin hlt
          go_wp2
          go_ret
          exact ⟨by simp, HB2.out.trans (HBW.out.mono HB2.out.size)⟩
end Go.Proofs.Ytpjafemkdoeflaa
