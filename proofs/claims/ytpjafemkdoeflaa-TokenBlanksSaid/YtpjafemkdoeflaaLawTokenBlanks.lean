/-
  The law TokenBlanks: blanks laid between the tokens in braces change no token.
-/
import Derived.Test.YtpjafemkdoeflaaLawTokenTexts
import Derived.Test.YtpjafemkdoeflaaTkH
import Derived.Test.YtpjafemkdoeflaaLawTokenJoins
import Derived.Test.YtpjafemkdoeflaaLawTokenPlaces
namespace Go.Proofs.Ytpjafemkdoeflaa
open Go.RowKit

/-- The slice value v reads as the bytes gs. -/
def IsU8 (w : World) (B : Nat) (v : Value) (gs : List Nat) : Prop :=
  ∃ ao cap, v = .slice ao gs.length cap ∧ (0 < gs.length → ∃ b o, ao = some ⟨b, o, none⟩ ∧ b < B ∧ ∀ i, i < gs.length → gs.getD i 0 < 256 ∧ w.cell? ⟨b, o + i, none⟩ = some (.int .u8 (gs.getD i 0)))
theorem IsU8.below {w w' : World} {B : Nat} {v : Value} {xs : List Nat} (h : IsU8 w B v xs) (hb : Below B w w') : IsU8 w' B v xs := by
  obtain ⟨ao, cap, rfl, h⟩ := h
  refine ⟨ao, cap, rfl, fun hl => ?_⟩
  obtain ⟨b, o, rfl, hB, hc⟩ := h hl
  exact ⟨b, o, rfl, hB, fun i hi => ⟨(hc i hi).1, (hb.cell (p := ⟨b, o + i, none⟩) hB).trans (hc i hi).2⟩⟩
theorem bl_ba (q : Nat) (h : q ≤ 3) : (⟨#[32, 9, 10]⟩ : ByteArray).extract 0 q = ba (bl q) := by
  have : q = 0 ∨ q = 1 ∨ q = 2 ∨ q = 3 := by omega
  rcases this with rfl | rfl | rfl | rfl <;> rfl

set_option maxRecDepth 100000 in
set_option maxHeartbeats 2000000 in
/-- Tokens of any text at all. -/
theorem tokens_all (l : By) (hl : l.length ≤ maxLen) (w : World) : Calls Try.prog 9 #[.string (ba l)] w (ToksP l w) := by
  unfold maxLen at hl
  by_cases h4 : 4000 < l.length
  · unfold ToksP
    have hsz : (ba l).size = l.length := rfl
    obtain ⟨q1, q2, q3⟩ := toks_long h4
    rw [q1, q2, q3]
    have h4' : (4000 : Int) < ((ba l).size : Int) := by rw [hsz]; omega
    go_enter Try.func9, Try.ntmps9
    go_wp2
    go_ret3
    exact ⟨_, rfl, IsToks.nil _ _, Below.refl _ _⟩
  · exact tokens_any l (by omega) w

set_option maxRecDepth 100000 in
set_option maxHeartbeats 16000000 in
theorem law_TokenBlanks (s : ByteArray) (v : Value) (gs : List Nat) (hs : s.size ≤ maxLen) (w : World) (hv : IsU8 w w.heap.size v gs) (hgl : gs.length ≤ maxLen) : Calls Try.prog 6 #[.string s, v] w (TrueP w) := by
  unfold maxLen at hs hgl
  obtain ⟨l, hll⟩ : ∃ l, s.data.toList = l := ⟨_, rfl⟩
  have hsb := ba_of hll
  subst hsb
  have hsz : (ba l).size = l.length := rfl
  rw [hsz] at hs
  by_cases hl : 1000 < l.length
  · have h1 := fun W => tokens_all l (by unfold maxLen; omega) W
    unfold ToksP at h1
    have H1 := Lib.hid h1
    obtain ⟨ag, cg, rfl, _⟩ := hv
    clear h1 hll
    go_enter Try.func6, Try.ntmps6
    go_wp2_with fail
    refine (awake_any _).mono ?_
    rintro e w1 ⟨rfl, hb1⟩
    have HB1 := Lib.hid hb1
    clear hb1
    go_wp2_with fail
    refine (H1.out _).mono ?_
    rintro e w2 ⟨v2, rfl, ⟨ao, ca, rfl, _⟩, hb2⟩
    have HB2 := Lib.hid (HB1.out.trans (hb2.mono HB1.out.size))
    clear hb2
    go_wp2
    go_ret
    exact ⟨rfl, HB2.out⟩
  · have h1 := fun W => tokens_any l (by omega) W
    unfold ToksP at h1
    have hol := outL_len l
    cases he : (toks l).2 with
    | some p =>
      obtain ⟨q1, q2, q3⟩ := toks_bad (by omega) he
      rw [q1, q2, q3] at h1
      have H1 := Lib.hid h1
      obtain ⟨ag, cg, rfl, _⟩ := hv
      clear h1 q1 q2 q3 hll he hol
      go_enter Try.func6, Try.ntmps6
      go_wp2_with fail
      refine (awake_any _).mono ?_
      rintro e w1 ⟨rfl, hb1⟩
      have HB1 := Lib.hid hb1
      clear hb1
      go_wp2_with fail
      refine (H1.out _).mono ?_
      rintro e w2 ⟨v2, rfl, ⟨ao, ca, rfl, _⟩, hb2⟩
      have HB2 := Lib.hid (HB1.out.trans (hb2.mono HB1.out.size))
      clear hb2
      go_wp2
      go_ret
      exact ⟨rfl, HB2.out⟩
    | none =>
      obtain ⟨q1, q2, q3⟩ := toks_good (l := l) (by omega) rfl he
      obtain ⟨us, hu1, hu2⟩ := blanks_toks (s := l) (gs := gs) (O := (toks l).1) (Prod.ext rfl he)
      have hlen := blanks_len (s := l) (gs := gs) (O := (toks l).1) (by omega) (by rw [← q1]; exact hol)
      have hgood := toks_places l (l.length + 1) 0 0 0 false (toks l).1 (by rw [List.drop_zero]; exact Prod.ext rfl he) (Nat.zero_le _) (Nat.le_refl _) (fun _ => rfl) (fun k h1 h2 => by omega) (fun h => by cases h)
      rw [q1] at hol
      rw [q1, q2, q3] at h1
      obtain ⟨O, hO⟩ : ∃ O, (toks l).1 = O := ⟨_, rfl⟩
      rw [hO] at hgood hol hu1 hu2 hlen
      simp only [hO] at h1
      obtain ⟨T, hT⟩ : ∃ T, reb (gapG gs O) (chs l O) 0 0 = T := ⟨_, rfl⟩
      rw [hT] at hlen hu1
      have h3 := fun W => tokens_any T (by omega) W
      unfold ToksP at h3
      have H1 := Lib.hid h1
      have H3 := Lib.hid h3
      have HG := Lib.hid hgood
      have HT := Lib.hid hT
      have HU1 := Lib.hid hu1
      have HU2 := Lib.hid hu2
      have HV := Lib.hid hv
      obtain ⟨n, hn⟩ : ∃ n, n = O.length := ⟨_, rfl⟩
      rw [← hn] at hol
      have HN := Lib.hid hn
      obtain ⟨ag, cg, rfl, hgc⟩ := HV.out
      have HGC := Lib.hid hgc
      clear h1 h3 q1 q2 q3 hll he hgood hO hT hu1 hu2 hv hn hgc
      go_enter Try.func6, Try.ntmps6
      go_wp2_with fail
      refine (awake_any _).mono ?_
      rintro e w1 ⟨rfl, hb1⟩
      have HB1 := Lib.hid hb1
      clear hb1
      go_wp2_with fail
      refine (H1.out _).mono ?_
      rintro e w2 ⟨v2, rfl, ⟨ao, ca, rfl, hc⟩, hb2⟩
      rw [← HN.out] at hc
      rw [← HN.out]
      have HC := Lib.hid hc
      have HB2 := Lib.hid (HB1.out.trans (hb2.mono HB1.out.size))
      clear hb2 hc
      go_wp2
      go_loopw [8, 9, 10, 11, 12] (fun ov dv iv _ _ wr => ∃ (i e d : Nat) (pt : Bool) (P : By), i ≤ n ∧ iv = .int .i64 i ∧ dv = .int .i64 d ∧ ov = .string (ba P) ∧ P ++ reb (gapG gs O) (chs l (O.drop i)) i d = T ∧ Good l e d pt (O.drop i) ∧ d ≤ i ∧ Below w2.heap.size w2 wr) (fun _ _ iv _ _ _ => n - (intOf iv).toNat)
      case atStart => exact ⟨0, 0, 0, false, [], Nat.zero_le _, rfl, rfl, rfl, HT.out, HG.out, Nat.le_refl _, Below.refl _ _⟩
      case round =>
        obtain ⟨i, e, d, pt, P, hi, rfl, rfl, rfl, hP, hg, hdi, hb⟩ := hrel
        have i0 : (0 : Int) ≤ (i : Int) := by omega
        have d0 : (0 : Int) ≤ (d : Int) := by omega
        by_cases hlt : i < n
        · have i1 : (i : Int) < (n : Int) := by omega
          obtain ⟨b, o, rfl, hbB, hcl⟩ := HC.out (by omega)
          obtain ⟨⟨k, t, fr, tz⟩, hx, g1, g2, g3, g4, g5, g6, g7, g8, g9, g10⟩ := good_here hg (by have := HN.out; omega)
          dsimp only at g1 g2 g3 g4 g5 g6 g7 g8 g9 g10
          obtain ⟨e0, e1, e2, e3⟩ := hcl i _ hx
          dsimp only at e0 e1 e2 e3
          have c0 := (hb.cell (p := ⟨b, o + i * 4, none⟩) hbB).trans e0
          have c1 := (hb.cell (p := ⟨b, o + i * 4 + 1, none⟩) hbB).trans e1
          have c2 := (hb.cell (p := ⟨b, o + i * 4 + 2, none⟩) hbB).trans e2
          have c3 := (hb.cell (p := ⟨b, o + i * 4 + 3, none⟩) hbB).trans e3
          have hstep := reb_step (s := l) (G := gapG gs O) (d := d) hx
          rw [hstep] at hP
          dsimp only at hP
          obtain ⟨ch, hch⟩ : ∃ ch, (l.drop fr).take (tz - fr) = ch := ⟨_, rfl⟩
          rw [hch] at hP
          have hcut : (ba l).extract fr tz = ba ch := by rw [ba_ext (ba_list l), hch]
          have hsz2 : P.length + (if d % 2 = 1 then bl (gapG gs O i) else []).length + ch.length ≤ 4012000 := by
            have := congrArg List.length hP
            simp only [List.length_append] at this
            omega
          have HPP := Lib.hid hP
          have HG10 := Lib.hid g10
          have HBW := Lib.hid hb
          have f1 : (0 : Int) ≤ (fr : Int) := by omega
          have f3 : ¬ (l.length : Int) < (tz : Int) := by omega
          have f4 : (fr : Int) ≤ (tz : Int) := by omega
          have f5 : (tz : Int) ≤ (l.length : Int) := by omega
          have f6 : ¬ (tz : Int) < (fr : Int) := by omega
          have hsW := hb.size
          have hz1 : (ba P).size ≤ 4012000 := by (show P.length ≤ 4012000); omega
          have hz2 : (ba ch).size ≤ 4012000 := by (show ch.length ≤ 4012000); omega
          have HX := Lib.hid hx
          have hg8 : k = 3 → (1 : Int) ≤ (d : Int) := fun h => by have := g8 h; omega
          have hds : newD k d ≤ i + 1 := by
            unfold newD
            split
            · omega
            · split <;> omega
          clear e0 e1 e2 e3 g4 g5 g6 g7 g8 g10 hg hx hP hstep hch hb
          have hpar : ((d : Int).tmod 2 = 0 ∧ d % 2 = 0) ∨ ((d : Int).tmod 2 = 1 ∧ d % 2 = 1) := by
            have h := Int.tmod_eq_emod_of_nonneg (a := (d : Int)) (b := 2) d0
            rcases (show d % 2 = 0 ∨ d % 2 = 1 by omega) with h2 | h2
            · exact .inl ⟨by rw [h]; omega, h2⟩
            · exact .inr ⟨by rw [h]; omega, h2⟩
          rcases hpar with ⟨hm, hm2⟩ | ⟨hm, hm2⟩
          · rw [if_neg (by omega)] at hsz2
            have hPP := HPP.out
            rw [if_neg (by omega), List.nil_append, ← List.append_assoc] at hPP
            have HQ := Lib.hid hPP
            clear HPP hPP
            rcases (show k = 2 ∨ k = 3 ∨ (k ≠ 2 ∧ k ≠ 3) by omega) with rfl | rfl | ⟨k2, k3⟩
            · clear hg8
              have hnd2 : (d : Int) + 1 = ((newD 2 d : Nat) : Int) := by
                unfold newD
                rw [if_pos rfl]
                omega
              go_wp2
              go_roundw
              case rel => exact ⟨i + 1, tz, newD 2 d, (2 == 1), P ++ ch, by omega, by go_num, rfl, by rw [ba_add], HQ.out, HG10.out, hds, HBW.out.alloc hsW _⟩
              case measure => simp [intOf] <;> omega
            · have hd1 := hg8 rfl
              clear hg8
              have hnd3 : (d : Int) - 1 = ((newD 3 d : Nat) : Int) := by
                unfold newD
                rw [if_neg (by decide), if_pos rfl]
                omega
              go_wp2
              go_roundw
              case rel => exact ⟨i + 1, tz, newD 3 d, (3 == 1), P ++ ch, by omega, by go_num, rfl, by rw [ba_add], HQ.out, HG10.out, hds, HBW.out.alloc hsW _⟩
              case measure => simp [intOf] <;> omega
            · have hnd : newD k d = d := by
                unfold newD
                rw [if_neg k2, if_neg k3]
              have hk2 : ((k : Int) == 2) = false := by simp; omega
              have hk3 : ((k : Int) == 3) = false := by simp; omega
              rw [hnd] at HG10 HQ hds
              clear hg8
              go_wp2
              go_roundw
              case rel => exact ⟨i + 1, tz, d, (k == 1), P ++ ch, by omega, by go_num, rfl, by rw [ba_add], HQ.out, HG10.out, hds, HBW.out.alloc hsW _⟩
              case measure => simp [intOf] <;> omega
          · rw [if_pos hm2] at hsz2
            have hPP := HPP.out
            rw [if_pos hm2, ← List.append_assoc, ← List.append_assoc] at hPP
            have hi1 : 1 ≤ i := by omega
            obtain ⟨j, rfl⟩ : ∃ j, i = j + 1 := ⟨i - 1, by omega⟩
            have hjl : j < O.length := by have := HN.out; omega
            obtain ⟨y, hy⟩ : ∃ y, O[j]? = some y := ⟨_, List.getElem?_eq_getElem hjl⟩
            obtain ⟨ej, _⟩ := hcl j _ hy
            have cj := (HBW.out.cell (p := ⟨b, o + j * 4, none⟩) hbB).trans ej
            have cjA := fun K : Int => ((HBW.out.alloc hsW (.cells #[.int .i64 K, .string (ba t), .int .i64 fr, .int .i64 tz] 34)).cell (p := ⟨b, o + j * 4, none⟩) hbB).trans ej
            obtain ⟨G, hG⟩ : ∃ G, gapG gs O (j + 1) = G := ⟨_, rfl⟩
            rw [hG] at hPP hsz2
            have HQ := Lib.hid hPP
            have hGl : G ≤ 3 := by
              rw [← hG]
              unfold gapG
              have := gap0_le gs (j + 1)
              split
              · omega
              · omega
            have hbl := bl_ba G hGl
            have hz3 : (ba P ++ ba (bl G)).size ≤ 4012000 := by rw [ba_add]; (show (P ++ bl G).length ≤ 4012000); rw [List.length_append]; omega
            have hz4 : (ba (bl G)).size ≤ 4012000 := by (show (bl G).length ≤ 4012000); omega
            clear HPP hPP hcl ej
            have hyx : gap0 gs (j + 1) ≤ 3 := gap0_le gs (j + 1)
            have hGw : k = 9 → y.1 = 9 → max (gap0 gs (j + 1)) 1 = G := fun h1 h2 => by rw [← hG]; exact (gapG_word HX.out hy h1 h2).symm
            have hGn : (k ≠ 9 ∨ y.1 ≠ 9) → gap0 gs (j + 1) = G := fun h => by
              rw [← hG]
              refine (gapG_not HX.out ?_).symm
              rcases h with h | h
              · exact .inl h
              · refine .inr fun y' hy' => ?_
                rw [Nat.add_sub_cancel, hy] at hy'
                cases hy'
                exact h
            clear hG hGl hbl
            by_cases hgs : gs.length = 0
            · have hgz : gap0 gs (j + 1) = 1 := by unfold gap0; rw [if_pos hgs]
              have hgs2 : ¬ (0 : Int) < (gs.length : Int) := by omega
              rw [hgz] at hGw hGn hyx
              clear hgz hgs
              by_cases hk9 : k = 9
              · subst hk9
                by_cases hy9 : y.1 = 9
                · have hGq := hGw rfl hy9
                  subst hGq
                  have hy9i : ((y.1 : Nat) : Int) = 9 := by omega
                  have hy9b : (((y.1 : Nat) : Int) == 9) = true := by simp; omega
                  clear hGw hGn
                  have hnd : newD 9 d = d := by
                    unfold newD
                    rw [if_neg (by omega), if_neg (by omega)]
                  rw [hnd] at HG10 HQ hds
                  clear hg8
                  have cj2 := cjA 9
                  clear cjA
                  go_wp2
                  go_roundw
                  case rel => exact ⟨j + 1 + 1, tz, d, (9 == 1), P ++ bl (max 1 1) ++ ch, by omega, by go_num, rfl, by rw [show (min (1 : Int) 3).toNat = max 1 1 from rfl, bl_ba (max 1 1) (by omega), ba_add, ba_add], HQ.out, HG10.out, hds, HBW.out.alloc hsW _⟩
                  case measure => simp [intOf] <;> omega
                · have hGq := hGn (.inr hy9)
                  subst hGq
                  have hy9b : (((y.1 : Nat) : Int) == 9) = false := by simp; omega
                  clear hGw hGn
                  have hnd : newD 9 d = d := by
                    unfold newD
                    rw [if_neg (by omega), if_neg (by omega)]
                  rw [hnd] at HG10 HQ hds
                  clear hg8
                  have cj2 := cjA 9
                  clear cjA
                  go_wp2
                  go_roundw
                  case rel => exact ⟨j + 1 + 1, tz, d, (9 == 1), P ++ bl 1 ++ ch, by omega, by go_num, rfl, by rw [show (min (1 : Int) 3).toNat = 1 from by omega, bl_ba 1 (by omega), ba_add, ba_add], HQ.out, HG10.out, hds, HBW.out.alloc hsW _⟩
                  case measure => simp [intOf] <;> omega
              · have hGq := hGn (.inl hk9)
                subst hGq
                have hk9' : ((k : Int) == 9) = false := by simp; omega
                clear hGw hGn
                rcases (show k = 2 ∨ k = 3 ∨ (k ≠ 2 ∧ k ≠ 3) by omega) with rfl | rfl | ⟨k2, k3⟩
                · clear hg8
                  have hnd2 : (d : Int) + 1 = ((newD 2 d : Nat) : Int) := by
                    unfold newD
                    rw [if_pos rfl]
                    omega
                  clear cjA
                  go_wp2
                  go_roundw
                  case rel => exact ⟨j + 1 + 1, tz, newD 2 d, (2 == 1), P ++ bl 1 ++ ch, by omega, by go_num, rfl, by rw [show (min (1 : Int) 3).toNat = 1 from by omega, bl_ba 1 (by omega), ba_add, ba_add], HQ.out, HG10.out, hds, HBW.out.alloc hsW _⟩
                  case measure => simp [intOf] <;> omega
                · have hd1 := hg8 rfl
                  clear hg8
                  have hnd3 : (d : Int) - 1 = ((newD 3 d : Nat) : Int) := by
                    unfold newD
                    rw [if_neg (by decide), if_pos rfl]
                    omega
                  clear cjA
                  go_wp2
                  go_roundw
                  case rel => exact ⟨j + 1 + 1, tz, newD 3 d, (3 == 1), P ++ bl 1 ++ ch, by omega, by go_num, rfl, by rw [show (min (1 : Int) 3).toNat = 1 from by omega, bl_ba 1 (by omega), ba_add, ba_add], HQ.out, HG10.out, hds, HBW.out.alloc hsW _⟩
                  case measure => simp [intOf] <;> omega
                · have hk2 : ((k : Int) == 2) = false := by simp; omega
                  have hk3 : ((k : Int) == 3) = false := by simp; omega
                  have hnd : newD k d = d := by
                    unfold newD
                    rw [if_neg (by omega), if_neg (by omega)]
                  rw [hnd] at HG10 HQ hds
                  clear hg8
                  clear cjA
                  go_wp2
                  go_roundw
                  case rel => exact ⟨j + 1 + 1, tz, d, (k == 1), P ++ bl 1 ++ ch, by omega, by go_num, rfl, by rw [show (min (1 : Int) 3).toNat = 1 from by omega, bl_ba 1 (by omega), ba_add, ba_add], HQ.out, HG10.out, hds, HBW.out.alloc hsW _⟩
                  case measure => simp [intOf] <;> omega
            · obtain ⟨m, hm0⟩ : ∃ m, m = (j + 1) % gs.length := ⟨_, rfl⟩
              have hml : m < gs.length := by rw [hm0]; exact Nat.mod_lt _ (by omega)
              obtain ⟨bg, og, rfl, hbg, hgc⟩ := HGC.out (by omega)
              obtain ⟨hx8, hgcell⟩ := hgc m hml
              obtain ⟨x, hxg⟩ : ∃ x, gs.getD m 0 = x := ⟨_, rfl⟩
              obtain ⟨q, hq⟩ : ∃ q, x % 4 = q := ⟨_, rfl⟩
              have hgz : gap0 gs (j + 1) = q := by unfold gap0; rw [if_neg hgs, ← hm0, hxg, hq]
              rw [hgz] at hGw hGn hyx
              rw [hxg] at hx8 hgcell
              have cg := ((HB2.out.trans (HBW.out.mono HB2.out.size)).cell (p := ⟨bg, og + m, none⟩) hbg).trans hgcell
              have cgA := fun K : Int => ((HB2.out.trans ((HBW.out.alloc hsW (.cells #[.int .i64 K, .string (ba t), .int .i64 fr, .int .i64 tz] 34)).mono HB2.out.size)).cell (p := ⟨bg, og + m, none⟩) hbg).trans hgcell
              have hgs2 : (0 : Int) < (gs.length : Int) := by omega
              have hgs3 : ((j + 1 : Nat) : Int).tmod (gs.length : Int) = (m : Int) := by rw [Int.tmod_eq_emod_of_nonneg (by omega), hm0]; rfl
              have hgs4 : ((j : Int) + 1).tmod (gs.length : Int) = (m : Int) := hgs3
              have hm1 : (0 : Int) ≤ (m : Int) := by omega
              have hm2' : (m : Int) < (gs.length : Int) := by omega
              have hx4 : (x : Int).tmod 4 = (q : Int) := by rw [Int.tmod_eq_emod_of_nonneg (by omega), ← hq]; rfl
              have hxi : (x : Int) ≤ 255 := by omega
              have hx0 : (0 : Int) ≤ (x : Int) := by omega
              have hq0 : (0 : Int) ≤ (q : Int) := by omega
              have hq3 : (q : Int) ≤ 3 := by omega
              clear hgz hgc hxg hq hgcell hbg hm0
              by_cases hk9 : k = 9
              · subst hk9
                by_cases hy9 : y.1 = 9
                · have hGq := hGw rfl hy9
                  subst hGq
                  have hy9i : ((y.1 : Nat) : Int) = 9 := by omega
                  have hy9b : (((y.1 : Nat) : Int) == 9) = true := by simp; omega
                  clear hGw hGn
                  have hnd : newD 9 d = d := by
                    unfold newD
                    rw [if_neg (by omega), if_neg (by omega)]
                  rw [hnd] at HG10 HQ hds
                  clear hg8
                  have cj2 := cjA 9
                  have cg2 := cgA 9
                  clear cgA
                  clear cjA
                  go_wp2
                  go_roundw
                  case rel => exact ⟨j + 1 + 1, tz, d, (9 == 1), P ++ bl (max q 1) ++ ch, by omega, by go_num, rfl, by rw [show (min (max ((q : Nat) : Int) 1) 3).toNat = max q 1 from by omega, bl_ba (max q 1) (by omega), ba_add, ba_add], HQ.out, HG10.out, hds, HBW.out.alloc hsW _⟩
                  case measure => simp [intOf] <;> omega
                · have hGq := hGn (.inr hy9)
                  subst hGq
                  have hy9b : (((y.1 : Nat) : Int) == 9) = false := by simp; omega
                  clear hGw hGn
                  have hnd : newD 9 d = d := by
                    unfold newD
                    rw [if_neg (by omega), if_neg (by omega)]
                  rw [hnd] at HG10 HQ hds
                  clear hg8
                  have cj2 := cjA 9
                  have cg2 := cgA 9
                  clear cgA
                  clear cjA
                  go_wp2
                  go_roundw
                  case rel => exact ⟨j + 1 + 1, tz, d, (9 == 1), P ++ bl q ++ ch, by omega, by go_num, rfl, by rw [show (min ((q : Nat) : Int) 3).toNat = q from by omega, bl_ba q (by omega), ba_add, ba_add], HQ.out, HG10.out, hds, HBW.out.alloc hsW _⟩
                  case measure => simp [intOf] <;> omega
              · have hGq := hGn (.inl hk9)
                subst hGq
                have hk9' : ((k : Int) == 9) = false := by simp; omega
                clear hGw hGn
                rcases (show k = 2 ∨ k = 3 ∨ (k ≠ 2 ∧ k ≠ 3) by omega) with rfl | rfl | ⟨k2, k3⟩
                · clear hg8
                  have hnd2 : (d : Int) + 1 = ((newD 2 d : Nat) : Int) := by
                    unfold newD
                    rw [if_pos rfl]
                    omega
                  have cg2 := cgA 2
                  clear cgA
                  clear cjA
                  go_wp2
                  go_roundw
                  case rel => exact ⟨j + 1 + 1, tz, newD 2 d, (2 == 1), P ++ bl q ++ ch, by omega, by go_num, rfl, by rw [show (min ((q : Nat) : Int) 3).toNat = q from by omega, bl_ba q (by omega), ba_add, ba_add], HQ.out, HG10.out, hds, HBW.out.alloc hsW _⟩
                  case measure => simp [intOf] <;> omega
                · have hd1 := hg8 rfl
                  clear hg8
                  have hnd3 : (d : Int) - 1 = ((newD 3 d : Nat) : Int) := by
                    unfold newD
                    rw [if_neg (by decide), if_pos rfl]
                    omega
                  have cg2 := cgA 3
                  clear cgA
                  clear cjA
                  go_wp2
                  go_roundw
                  case rel => exact ⟨j + 1 + 1, tz, newD 3 d, (3 == 1), P ++ bl q ++ ch, by omega, by go_num, rfl, by rw [show (min ((q : Nat) : Int) 3).toNat = q from by omega, bl_ba q (by omega), ba_add, ba_add], HQ.out, HG10.out, hds, HBW.out.alloc hsW _⟩
                  case measure => simp [intOf] <;> omega
                · have hk2 : ((k : Int) == 2) = false := by simp; omega
                  have hk3 : ((k : Int) == 3) = false := by simp; omega
                  have hnd : newD k d = d := by
                    unfold newD
                    rw [if_neg (by omega), if_neg (by omega)]
                  rw [hnd] at HG10 HQ hds
                  clear hg8
                  have cg2 := cgA (k : Int)
                  clear cgA
                  clear cjA
                  go_wp2
                  go_roundw
                  case rel => exact ⟨j + 1 + 1, tz, d, (k == 1), P ++ bl q ++ ch, by omega, by go_num, rfl, by rw [show (min ((q : Nat) : Int) 3).toNat = q from by omega, bl_ba q (by omega), ba_add, ba_add], HQ.out, HG10.out, hds, HBW.out.alloc hsW _⟩
                  case measure => simp [intOf] <;> omega
        · have hin : ¬ (i : Int) < (n : Int) := by omega
          have hin2 : i = n := by omega
          have hPT : P = T := by
            rw [← hP, hin2, HN.out, List.drop_length]
            show P = P ++ []
            rw [List.append_nil]
          rw [hPT]
          have HB3 := Lib.hid (HB2.out.trans (hb.mono HB2.out.size))
          have HBW := Lib.hid hb
          clear hP hPT hg hb hin2
          go_wp2_with fail
          refine (H3.out _).mono ?_
          rintro ex w4 ⟨v4, rfl, hi4, hb4⟩
          have hl0 : IsToks w2 w2.heap.size (.slice ao n ca) O := ⟨ao, ca, by rw [← HN.out], fun h => HC.out (by rw [HN.out]; exact h)⟩
          have hl4 := (hl0.below HBW.out).below (hb4.mono HBW.out.size)
          have hs24 : w2.heap.size ≤ w4.heap.size := Nat.le_trans HBW.out.size hb4.size
          have HB4 := Lib.hid (HB3.out.trans (hb4.mono HB3.out.size))
          clear hb4
          by_cases hT4 : 4000 < T.length
          · have hTz : (4000 : Int) < ((ba T).size : Int) := by (show (4000 : Int) < (T.length : Int)); omega
            clear hi4 hl4 hl0
            go_wp2
            go_ret
            exact ⟨rfl, HB4.out⟩
          · obtain ⟨z1, z2, z3⟩ := toks_good (l := T) hT4 rfl (by rw [HU1.out])
            rw [HU1.out] at z1
            have z1 : outL T = us := z1
            rw [z1] at hi4
            rw [z2, z3]
            have hus : us.length = n := by have := congrArg List.length HU2.out; rw [List.length_map, List.length_map, ← HN.out] at this; exact this
            have hw5 := own_any (.slice ao n ca) O w2.heap.size w4 hl4 hs24 (by rw [← HN.out]; omega)
            have hTz : ((ba T).size : Int) ≤ 4000 := by (show (T.length : Int) ≤ 4000); omega
            have HW5 := Lib.hid hw5
            have HI4 := Lib.hid hi4
            have HUS := Lib.hid hus
            clear hi4 hl4 hl0 z1 z2 z3 hw5 hus
            go_wp2_with fail
            refine HW5.out.mono ?_
            rintro e w5 ⟨v5, rfl, ho5, hb5⟩
            have hw6 := own_any v4 us w4.heap.size w5 (HI4.out.below hb5) hb5.size (by rw [HUS.out]; omega)
            have HW6 := Lib.hid hw6
            have HO5 := Lib.hid ho5
            have HB5 := Lib.hid (HB4.out.trans (hb5.mono HB4.out.size))
            clear hw6 ho5 hb5 HW5
            go_wp2_with fail
            refine HW6.out.mono ?_
            rintro e w6 ⟨v6, rfl, ho6, hb6⟩
            have hw7 := sameT_any v5 v6 O us false w6.heap.size w6 (IsToks.of_own (own_keep HO5.out hb6)) (IsToks.of_own ho6) (same_keys HU2.out.symm) (by rw [← HN.out]; omega)
            have HW7 := Lib.hid hw7
            have HB6 := Lib.hid (HB5.out.trans (hb6.mono HB5.out.size))
            clear hw7 ho6 hb6 HW6
            go_wp2_with fail
            refine HW7.out.mono ?_
            rintro e w7 ⟨rfl, hb7⟩
            have HB7 := Lib.hid (HB6.out.trans (hb7.mono HB6.out.size))
            clear hb7
            go_wp2
            go_ret
            exact ⟨rfl, HB7.out⟩
end Go.Proofs.Ytpjafemkdoeflaa
