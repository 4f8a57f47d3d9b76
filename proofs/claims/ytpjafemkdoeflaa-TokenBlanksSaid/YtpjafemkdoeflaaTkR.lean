/-
  calqueref25.Tokens: the tokens of a text. (Printed by gen_TkR.py.)
-/
import Derived.Test.YtpjafemkdoeflaaTkP
import Derived.Deep.DeepCutAuto
import Derived.Deep.CutBlock
namespace Go.Proofs.Ytpjafemkdoeflaa
open Go.RowKit

theorem tok1_three {br : Bool} {c : UInt8} {r : By} {t : By} {n : Nat} (h : tok1 br (c :: r) = some (3, t, n)) : c = 125 := by
  unfold tok1 at h
  dsimp only at h
  repeat' split at h
  all_goals first
    | assumption
    | (cases h; done)
    | (have he := (elemT_some h).size; omega)
    | (simp only [Option.some.injEq, Prod.mk.injEq] at h
       omega)
theorem plO_none {d : Nat} {c : UInt8} {r : By} (h : plO d c r = none) : tok1 false (c :: r) = none ∨ (d = 0 ∧ ∃ t n, tok1 false (c :: r) = some (3, t, n)) := by
  unfold plO at h
  split at h
  · rename_i hc
    obtain ⟨rfl, rfl⟩ := hc
    exact .inr ⟨rfl, _, _, rfl⟩
  · exact .inl h
theorem plO_some {d : Nat} {c : UInt8} {r : By} {k : Nat} {t : By} {n : Nat} (h : plO d c r = some (k, t, n)) : tok1 false (c :: r) = some (k, t, n) ∧ ¬ (k = 3 ∧ d = 0) := by
  unfold plO at h
  split at h
  · cases h
  · rename_i hc
    refine ⟨h, ?_⟩
    rintro ⟨rfl, rfl⟩
    exact hc ⟨tok1_three h, rfl⟩
theorem cells4_of {W : World} {g : Nat} {v0 v1 v2 v3 : Value} {t : TypeId} (h : W.heap[g]? = some (.cells #[v0, v1, v2, v3] t (0, 0))) :
    W.cell? ⟨g, 0, none⟩ = some v0 ∧ W.cell? ⟨g, 1, none⟩ = some v1 ∧ W.cell? ⟨g, 2, none⟩ = some v2 ∧ W.cell? ⟨g, 3, none⟩ = some v3 :=
  ⟨by rw [Lib.cell_of_heap h]; rfl, by rw [Lib.cell_of_heap h]; rfl, by rw [Lib.cell_of_heap h]; rfl, by rw [Lib.cell_of_heap h]; rfl⟩

set_option maxRecDepth 100000 in
set_option maxHeartbeats 8000000 in
theorem rtokens_any (l : By) (hl : l.length ≤ 1000000000) (w : World) : Calls Try.prog 10 #[.string (ba l)] w (ToksP l w) := by
  unfold ToksP
  have hsz : (ba l).size = l.length := rfl
  by_cases h4 : 4000 < l.length
  · obtain ⟨q1, q2, q3⟩ := toks_long h4
    rw [q1, q2, q3]
    have h4' : (4000 : Int) < ((ba l).size : Int) := by rw [hsz]; omega
    go_enter Try.func10, Try.ntmps10
    go_wp2
    go_ret3
    exact ⟨_, rfl, IsToks.nil _ _, Below.refl _ _⟩
  · obtain ⟨j0, hj, hy0, hy1, hy2⟩ := info_parts Try.infoTokR
    have hfin := fun ts h1 h2 => toks_good (l := l) (ts := ts) h4 h1 h2
    have hbad := fun p h2 => toks_bad (l := l) (p := p) h4 h2
    have h4' : ((ba l).size : Int) ≤ 4000 := by rw [hsz]; omega
    obtain ⟨O, hO⟩ : ∃ O, outL l = O := ⟨_, rfl⟩
    obtain ⟨A, hA⟩ : ∃ A, atV l = A := ⟨_, rfl⟩
    obtain ⟨E, hE⟩ : ∃ E, errV l = E := ⟨_, rfl⟩
    rw [hO, hA, hE]
    simp only [hO, hA, hE] at hfin hbad
    have HF := Lib.hid hfin
    have HB := Lib.hid hbad
    obtain ⟨T, hT⟩ : ∃ T, T = w.heap.size := ⟨_, rfl⟩
    have HT := Lib.hid hT
    rw [← hT]
    clear hfin hbad hO hA hE hT
    go_enter Try.func10, Try.ntmps10
    go_wp2
    go_loopw [5, 6, 7, 8, 9] (fun lv pv dv _ _ wr => ∃ (p d : Nat) (acc : List Tok), pv = .int .i64 p ∧ dv = .int .i64 d ∧ TokSt l p d acc ∧ wr.ownsRow T 36 4 lv acc.length (flatT acc) ∧ Below T w wr) (fun _ pv _ _ _ _ => l.length - (intOf pv).toNat)
    case atStart => exact ⟨0, 0, [], rfl, rfl, TokSt.start l, World.ownsRow_nil _ _ _ _, Below.refl _ _⟩
    case round =>
      obtain ⟨p, d, acc, rfl, rfl, hst, hown, hb⟩ := hrel
      have p0 : (0 : Int) ≤ (p : Int) := by omega
      have d0 : (0 : Int) ≤ (d : Int) := by omega
      have hpl := hst.1
      have hac := hst.2.2.2.1
      have hdp := hst.2.2.2.2
      have hsT : T ≤ wr.heap.size := by rw [HT.out]; exact hb.size
      by_cases hlt : p < l.length
      · obtain ⟨c, r, hd⟩ : ∃ c r, l.drop p = c :: r := ⟨l[p], l.drop (p + 1), List.drop_eq_getElem_cons hlt⟩
        obtain ⟨_, hdr, hc⟩ := drop_at hd
        have hps : p < (ba l).size := hlt
        have hx : ((ba l)[p]'hps).toNat = c.toNat := by rw [hc hps]
        have p1 : (p : Int) < ((ba l).size : Int) := by omega
        have HST := Lib.hid hst
        have HOWN := Lib.hid hown
        have HBW := Lib.hid hb
        have HD := Lib.hid hd
        have hbz : TokSt l p d acc → d % 2 = 1 → blB c = true → TokSt l (p + 1) d acc := fun h h1 h2 => h.blank hd h1 h2
        have HBZ := Lib.hid hbz
        have hlk := fun W => blank_any (c.toNat : Int) W
        unfold BoolP at hlk
        have hbc : blB c = blI c.toNat := rfl
        clear hst hown hb hdr hc hbz
        have hmod : (d : Int).tmod 2 = ((d % 2 : Nat) : Int) := by
          rw [Int.tmod_eq_emod_of_nonneg d0]
          omega
        have h01 : d % 2 = 0 ∨ d % 2 = 1 := by omega
        rcases h01 with hev | hev
        · rw [hev] at hmod
          have hmod : (d : Int).tmod 2 = 0 := hmod
          have hdec : decide (d % 2 = 1) = false := decide_eq_false (by omega)
          have hcall := fun W => plainText_any l p d c r hd (by omega) W
          unfold TokP at hcall
          have hnone : plO d c r = none → (toks l).2 = some p := by
            intro h
            rcases plO_none h with h | ⟨rfl, t, n, h⟩
            · exact HST.out.miss hd (fun h => by omega) (by rw [hdec]; exact h)
            · exact HST.out.shut hd h
          have hsome : ∀ k t n, plO d c r = some (k, t, n) → (TokSt l (p + n) (newD k d) (acc ++ [(k, t, p, p + n)]) ∧ 1 ≤ n ∧ p + n ≤ l.length) ∧ k ≠ 0 ∧ ¬ (k = 3 ∧ d = 0) := by
            intro k t n h
            obtain ⟨h1, h2⟩ := plO_some h
            exact ⟨HST.out.tok hd (fun h => by omega) (by rw [hdec]; exact h1) h2, tok1_kind h1, h2⟩
          obtain ⟨o, ho⟩ : ∃ o, plO d c r = o := ⟨_, rfl⟩
          rw [ho] at hnone
          simp only [ho] at hcall hsome
          have HC := Lib.hid hcall
          have HNO := Lib.hid hnone
          have HSO := Lib.hid hsome
          clear hcall hnone hsome hdec ho hlk hbc
          cases o with
          | none =>
            unfold tokO tokV at HC
            obtain ⟨q1, q2, q3⟩ := HB.out p (HNO.out rfl)
            have HQ := Lib.hid (And.intro q1 (And.intro q2 q3))
            clear q1 q2 q3 HNO HSO
            go_wp2_with fail
            refine (HC.out _).mono ?_
            rintro e w2 ⟨rfl, hb2⟩
            have hrow := (hb2.block wr.heap.size (by simp)).trans (tok_none wr 36)
            have hbw2 : Below wr.heap.size wr w2 := ((Below.refl _ _).alloc (Nat.le_refl _) _).trans (hb2.mono (by simp))
            obtain ⟨m1, m2, m3, m4, m5, m6, m7, m8, m9⟩ := row4 (v0 := .int .i64 0) (v1 := .string ⟨#[]⟩) (v2 := .int .i64 0) (v3 := .int .i64 0) hrow
            obtain ⟨f0, f1, f2, f3⟩ := cells4_of m9
            have hb4 := below4 (v0 := .int .i64 0) (v1 := .string ⟨#[]⟩) (v2 := .int .i64 0) (v3 := .int .i64 0) hbw2 (Nat.le_refl wr.heap.size)
            go_upto_region 13 with fail
            generalize (((w2.setCell ⟨wr.heap.size, 0, none⟩ (.int .i64 0)).setCell ⟨wr.heap.size, 1, none⟩ (.string ⟨#[]⟩)).setCell ⟨wr.heap.size, 2, none⟩ (.int .i64 0)).setCell ⟨wr.heap.size, 3, none⟩ (.int .i64 0) = wt at f0 f1 f2 f3 m9 hb4 ⊢
            have HBL := Lib.hid hb4
            clear hb2 hbw2 hrow m1 m2 m3 m4 m5 m6 m7 m8 m9 hb4
            go_wp2
            go_ret3
            obtain ⟨q1, q2, q3⟩ := HQ.out
            rw [q1, q2, q3]
            exact ⟨_, rfl, IsToks.nil _ _, HBW.out.trans (HBL.out.mono hsT)⟩
          | some q =>
            obtain ⟨k, t, n⟩ := q
            unfold tokO tokV at HC
            obtain ⟨⟨hs2, hn1, hpn⟩, hk0, hk3⟩ := HSO.out k t n rfl
            have HS2 := Lib.hid hs2
            have hkz : ((k : Int) == 0) = false := by simp; omega
            clear hs2 HNO HSO
            by_cases hk2 : k = 2
            · subst hk2
              go_wp2_with fail
              refine (HC.out _).mono ?_
              rintro e w2 ⟨rfl, hb2⟩
              have hrow := (hb2.block wr.heap.size (by simp)).trans (tok_none wr 36)
              have hbw2 : Below wr.heap.size wr w2 := ((Below.refl _ _).alloc (Nat.le_refl _) _).trans (hb2.mono (by simp))
              obtain ⟨m1, m2, m3, m4, m5, m6, m7, m8, m9⟩ := row4 (v0 := .int .i64 2) (v1 := .string (ba t)) (v2 := .int .i64 p) (v3 := .int .i64 ((p : Int) + (n : Int))) hrow
              obtain ⟨f0, f1, f2, f3⟩ := cells4_of m9
              have hb4 := below4 (v0 := .int .i64 2) (v1 := .string (ba t)) (v2 := .int .i64 p) (v3 := .int .i64 ((p : Int) + (n : Int))) hbw2 (Nat.le_refl wr.heap.size)
              go_upto_region 13 with fail
              generalize (((w2.setCell ⟨wr.heap.size, 0, none⟩ (.int .i64 2)).setCell ⟨wr.heap.size, 1, none⟩ (.string (ba t))).setCell ⟨wr.heap.size, 2, none⟩ (.int .i64 p)).setCell ⟨wr.heap.size, 3, none⟩ (.int .i64 ((p : Int) + (n : Int))) = wt at f0 f1 f2 f3 m9 hb4 ⊢
              have HBL := Lib.hid hb4
              clear hb2 hbw2 hrow m1 m2 m3 m4 m5 m6 m7 m8 m9 hb4
              have HOWN2 := Lib.hid (own_keep HOWN.out HBL.out)
              have HBX := Lib.hid (HBW.out.trans (HBL.out.mono hsT))
              have HO := Lib.hid (own_from HOWN.out)
              go_wp2_with (at_builtin
                           refine wpList_append_own _ rfl _ _ 27 rfl T 36 j0 (.agg #[.int .i64 0, .string ⟨#[]⟩, .int .i64 0, .int .i64 0]) 4 40 Try.underlying27 hj hy0 hy1 hy2 rfl (by decide) _ _ _ rfl (HOWN2.out.alloc _) ⟨_, 0, none⟩ 1 1 [.int .i64 2, .string (ba t), .int .i64 p, .int .i64 ((p : Int) + (n : Int))] rfl rfl (cell_four_new _ _ _ _ _ _) (by intro u hu; simp at hu; rcases hu with rfl | rfl | rfl | rfl <;> rfl) (by unfold maxLen; omega) (by omega) (by have := HBX.out.size; have := HT.out; simp; omega) ?_
                           intro v' w5 hE5 hg5 hg5b
                           have hb5 : Below T w w5 := (HBX.out.alloc (by have := HT.out; have := HBX.out.size; omega) _).grown hg5 (by have := HBX.out.size; have := HT.out; simp; omega) (fun j e => HO.out j e)
                           have g3 := hg5.cell ((((Below.refl _ wt).alloc (Nat.le_refl _) _).cell (p := ⟨wr.heap.size, 3, none⟩) (World.block_lt_of_cell? wt _ f3)).trans f3) (fun e => absurd (HOWN.out.lt _ e.symm).2 (Nat.lt_irrefl _)))
              go_roundw
              case rel => exact ⟨p + n, d + 1, acc ++ [(2, t, p, p + n)], by go_num, by go_num, by have := HS2.out; rw [show newD 2 d = d + 1 from rfl] at this; exact this, by rw [flatT_one, List.length_append]; exact hE5, hb5⟩
              case measure => simp [intOf] <;> omega
            · have hkb2 : ((k : Int) == 2) = false := by simp; omega
              by_cases hk3b : k = 3
              · subst hk3b
                have hd0 : 1 ≤ d := by
                  rcases Nat.eq_zero_or_pos d with h | h
                  · exact absurd ⟨rfl, h⟩ hk3
                  · exact h
                go_wp2_with fail
                refine (HC.out _).mono ?_
                rintro e w2 ⟨rfl, hb2⟩
                have hrow := (hb2.block wr.heap.size (by simp)).trans (tok_none wr 36)
                have hbw2 : Below wr.heap.size wr w2 := ((Below.refl _ _).alloc (Nat.le_refl _) _).trans (hb2.mono (by simp))
                obtain ⟨m1, m2, m3, m4, m5, m6, m7, m8, m9⟩ := row4 (v0 := .int .i64 3) (v1 := .string (ba t)) (v2 := .int .i64 p) (v3 := .int .i64 ((p : Int) + (n : Int))) hrow
                obtain ⟨f0, f1, f2, f3⟩ := cells4_of m9
                have hb4 := below4 (v0 := .int .i64 3) (v1 := .string (ba t)) (v2 := .int .i64 p) (v3 := .int .i64 ((p : Int) + (n : Int))) hbw2 (Nat.le_refl wr.heap.size)
                go_upto_region 13 with fail
                generalize (((w2.setCell ⟨wr.heap.size, 0, none⟩ (.int .i64 3)).setCell ⟨wr.heap.size, 1, none⟩ (.string (ba t))).setCell ⟨wr.heap.size, 2, none⟩ (.int .i64 p)).setCell ⟨wr.heap.size, 3, none⟩ (.int .i64 ((p : Int) + (n : Int))) = wt at f0 f1 f2 f3 m9 hb4 ⊢
                have HBL := Lib.hid hb4
                clear hb2 hbw2 hrow m1 m2 m3 m4 m5 m6 m7 m8 m9 hb4
                have HOWN2 := Lib.hid (own_keep HOWN.out HBL.out)
                have HBX := Lib.hid (HBW.out.trans (HBL.out.mono hsT))
                have HO := Lib.hid (own_from HOWN.out)
                go_wp2_with (at_builtin
                             refine wpList_append_own _ rfl _ _ 27 rfl T 36 j0 (.agg #[.int .i64 0, .string ⟨#[]⟩, .int .i64 0, .int .i64 0]) 4 40 Try.underlying27 hj hy0 hy1 hy2 rfl (by decide) _ _ _ rfl (HOWN2.out.alloc _) ⟨_, 0, none⟩ 1 1 [.int .i64 3, .string (ba t), .int .i64 p, .int .i64 ((p : Int) + (n : Int))] rfl rfl (cell_four_new _ _ _ _ _ _) (by intro u hu; simp at hu; rcases hu with rfl | rfl | rfl | rfl <;> rfl) (by unfold maxLen; omega) (by omega) (by have := HBX.out.size; have := HT.out; simp; omega) ?_
                             intro v' w5 hE5 hg5 hg5b
                             have hb5 : Below T w w5 := (HBX.out.alloc (by have := HT.out; have := HBX.out.size; omega) _).grown hg5 (by have := HBX.out.size; have := HT.out; simp; omega) (fun j e => HO.out j e)
                             have g3 := hg5.cell ((((Below.refl _ wt).alloc (Nat.le_refl _) _).cell (p := ⟨wr.heap.size, 3, none⟩) (World.block_lt_of_cell? wt _ f3)).trans f3) (fun e => absurd (HOWN.out.lt _ e.symm).2 (Nat.lt_irrefl _)))
                go_roundw
                case rel => exact ⟨p + n, d - 1, acc ++ [(3, t, p, p + n)], by go_num, by congr 1; omega, by have := HS2.out; rw [show newD 3 d = d - 1 from rfl] at this; exact this, by rw [flatT_one, List.length_append]; exact hE5, hb5⟩
                case measure => simp [intOf] <;> omega
              · have hkb3 : ((k : Int) == 3) = false := by simp; omega
                have hnd : newD k d = d := by unfold newD; rw [if_neg hk2, if_neg hk3b]
                go_wp2_with fail
                refine (HC.out _).mono ?_
                rintro e w2 ⟨rfl, hb2⟩
                have hrow := (hb2.block wr.heap.size (by simp)).trans (tok_none wr 36)
                have hbw2 : Below wr.heap.size wr w2 := ((Below.refl _ _).alloc (Nat.le_refl _) _).trans (hb2.mono (by simp))
                obtain ⟨m1, m2, m3, m4, m5, m6, m7, m8, m9⟩ := row4 (v0 := .int .i64 k) (v1 := .string (ba t)) (v2 := .int .i64 p) (v3 := .int .i64 ((p : Int) + (n : Int))) hrow
                obtain ⟨f0, f1, f2, f3⟩ := cells4_of m9
                have hb4 := below4 (v0 := .int .i64 k) (v1 := .string (ba t)) (v2 := .int .i64 p) (v3 := .int .i64 ((p : Int) + (n : Int))) hbw2 (Nat.le_refl wr.heap.size)
                go_upto_region 13 with fail
                generalize (((w2.setCell ⟨wr.heap.size, 0, none⟩ (.int .i64 k)).setCell ⟨wr.heap.size, 1, none⟩ (.string (ba t))).setCell ⟨wr.heap.size, 2, none⟩ (.int .i64 p)).setCell ⟨wr.heap.size, 3, none⟩ (.int .i64 ((p : Int) + (n : Int))) = wt at f0 f1 f2 f3 m9 hb4 ⊢
                have HBL := Lib.hid hb4
                clear hb2 hbw2 hrow m1 m2 m3 m4 m5 m6 m7 m8 m9 hb4
                have HOWN2 := Lib.hid (own_keep HOWN.out HBL.out)
                have HBX := Lib.hid (HBW.out.trans (HBL.out.mono hsT))
                have HO := Lib.hid (own_from HOWN.out)
                go_wp2_with (at_builtin
                             refine wpList_append_own _ rfl _ _ 27 rfl T 36 j0 (.agg #[.int .i64 0, .string ⟨#[]⟩, .int .i64 0, .int .i64 0]) 4 40 Try.underlying27 hj hy0 hy1 hy2 rfl (by decide) _ _ _ rfl (HOWN2.out.alloc _) ⟨_, 0, none⟩ 1 1 [.int .i64 k, .string (ba t), .int .i64 p, .int .i64 ((p : Int) + (n : Int))] rfl rfl (cell_four_new _ _ _ _ _ _) (by intro u hu; simp at hu; rcases hu with rfl | rfl | rfl | rfl <;> rfl) (by unfold maxLen; omega) (by omega) (by have := HBX.out.size; have := HT.out; simp; omega) ?_
                             intro v' w5 hE5 hg5 hg5b
                             have hb5 : Below T w w5 := (HBX.out.alloc (by have := HT.out; have := HBX.out.size; omega) _).grown hg5 (by have := HBX.out.size; have := HT.out; simp; omega) (fun j e => HO.out j e)
                             have g3 := hg5.cell ((((Below.refl _ wt).alloc (Nat.le_refl _) _).cell (p := ⟨wr.heap.size, 3, none⟩) (World.block_lt_of_cell? wt _ f3)).trans f3) (fun e => absurd (HOWN.out.lt _ e.symm).2 (Nat.lt_irrefl _)))
                go_roundw
                case rel => exact ⟨p + n, d, acc ++ [(k, t, p, p + n)], by go_num, rfl, by have := HS2.out; rw [hnd] at this; exact this, by rw [flatT_one, List.length_append]; exact hE5, hb5⟩
                case measure => simp [intOf] <;> omega
        · rw [hev] at hmod
          have hmod : (d : Int).tmod 2 = 1 := hmod
          cases hbl : blI (c.toNat : Int) with
          | true =>
            have hst2 := HBZ.out HST.out hev (hbc.trans hbl)
            rw [hbl] at hlk
            have HLK := Lib.hid hlk
            have HS2 := Lib.hid hst2
            clear hlk hst2 hbc hbl HST HD HBZ
            go_wp2_with fail
            refine (HLK.out _).mono ?_
            rintro e w2 ⟨rfl, rfl⟩
            go_wp2
            go_roundw
            case rel => exact ⟨p + 1, d, acc, by go_num, rfl, HS2.out, HOWN.out, HBW.out⟩
            case measure => simp [intOf] <;> omega
          | false =>
            rw [hbl] at hlk
            have HLK := Lib.hid hlk
            have hnbl : ¬ (d % 2 = 1 ∧ blB c = true) := fun h => by rw [hbc, hbl] at h; cases h.2
            have hdec : decide (d % 2 = 1) = true := decide_eq_true hev
            have hcall := fun W => braces_any l p c r hd (by omega) W
            unfold TokP at hcall
            have hnone : tok1 true (c :: r) = none → (toks l).2 = some p := fun h => HST.out.miss hd hnbl (by rw [hdec]; exact h)
            have hsome : ∀ k t n, tok1 true (c :: r) = some (k, t, n) → (TokSt l (p + n) (newD k d) (acc ++ [(k, t, p, p + n)]) ∧ 1 ≤ n ∧ p + n ≤ l.length) ∧ k ≠ 0 ∧ ¬ (k = 3 ∧ d = 0) := by
              intro k t n h
              have h2 : ¬ (k = 3 ∧ d = 0) := fun h => by omega
              exact ⟨HST.out.tok hd hnbl (by rw [hdec]; exact h) h2, tok1_kind h, h2⟩
            obtain ⟨o, ho⟩ : ∃ o, tok1 true (c :: r) = o := ⟨_, rfl⟩
            rw [ho] at hnone
            simp only [ho] at hcall hsome
            have HC := Lib.hid hcall
            have HNO := Lib.hid hnone
            have HSO := Lib.hid hsome
            clear hcall hnone hsome hdec ho hlk hbc hbl hnbl
            cases o with
            | none =>
              unfold tokO tokV at HC
              obtain ⟨q1, q2, q3⟩ := HB.out p (HNO.out rfl)
              have HQ := Lib.hid (And.intro q1 (And.intro q2 q3))
              clear q1 q2 q3 HNO HSO
              go_wp2_with fail
              refine (HLK.out _).mono ?_
              rintro e w2 ⟨rfl, rfl⟩
              go_wp2_with fail
              refine (HC.out _).mono ?_
              rintro e w2 ⟨rfl, hb2⟩
              have hrow := (hb2.block wr.heap.size (by simp)).trans (tok_none wr 36)
              have hbw2 : Below wr.heap.size wr w2 := ((Below.refl _ _).alloc (Nat.le_refl _) _).trans (hb2.mono (by simp))
              obtain ⟨m1, m2, m3, m4, m5, m6, m7, m8, m9⟩ := row4 (v0 := .int .i64 0) (v1 := .string ⟨#[]⟩) (v2 := .int .i64 0) (v3 := .int .i64 0) hrow
              obtain ⟨f0, f1, f2, f3⟩ := cells4_of m9
              have hb4 := below4 (v0 := .int .i64 0) (v1 := .string ⟨#[]⟩) (v2 := .int .i64 0) (v3 := .int .i64 0) hbw2 (Nat.le_refl wr.heap.size)
              go_upto_region 13 with fail
              generalize (((w2.setCell ⟨wr.heap.size, 0, none⟩ (.int .i64 0)).setCell ⟨wr.heap.size, 1, none⟩ (.string ⟨#[]⟩)).setCell ⟨wr.heap.size, 2, none⟩ (.int .i64 0)).setCell ⟨wr.heap.size, 3, none⟩ (.int .i64 0) = wt at f0 f1 f2 f3 m9 hb4 ⊢
              have HBL := Lib.hid hb4
              clear hb2 hbw2 hrow m1 m2 m3 m4 m5 m6 m7 m8 m9 hb4
              go_wp2
              go_ret3
              obtain ⟨q1, q2, q3⟩ := HQ.out
              rw [q1, q2, q3]
              exact ⟨_, rfl, IsToks.nil _ _, HBW.out.trans (HBL.out.mono hsT)⟩
            | some q =>
              obtain ⟨k, t, n⟩ := q
              unfold tokO tokV at HC
              obtain ⟨⟨hs2, hn1, hpn⟩, hk0, hk3⟩ := HSO.out k t n rfl
              have HS2 := Lib.hid hs2
              have hkz : ((k : Int) == 0) = false := by simp; omega
              clear hs2 HNO HSO
              by_cases hk2 : k = 2
              · subst hk2
                go_wp2_with fail
                refine (HLK.out _).mono ?_
                rintro e w2 ⟨rfl, rfl⟩
                go_wp2_with fail
                refine (HC.out _).mono ?_
                rintro e w2 ⟨rfl, hb2⟩
                have hrow := (hb2.block wr.heap.size (by simp)).trans (tok_none wr 36)
                have hbw2 : Below wr.heap.size wr w2 := ((Below.refl _ _).alloc (Nat.le_refl _) _).trans (hb2.mono (by simp))
                obtain ⟨m1, m2, m3, m4, m5, m6, m7, m8, m9⟩ := row4 (v0 := .int .i64 2) (v1 := .string (ba t)) (v2 := .int .i64 p) (v3 := .int .i64 ((p : Int) + (n : Int))) hrow
                obtain ⟨f0, f1, f2, f3⟩ := cells4_of m9
                have hb4 := below4 (v0 := .int .i64 2) (v1 := .string (ba t)) (v2 := .int .i64 p) (v3 := .int .i64 ((p : Int) + (n : Int))) hbw2 (Nat.le_refl wr.heap.size)
                go_upto_region 13 with fail
                generalize (((w2.setCell ⟨wr.heap.size, 0, none⟩ (.int .i64 2)).setCell ⟨wr.heap.size, 1, none⟩ (.string (ba t))).setCell ⟨wr.heap.size, 2, none⟩ (.int .i64 p)).setCell ⟨wr.heap.size, 3, none⟩ (.int .i64 ((p : Int) + (n : Int))) = wt at f0 f1 f2 f3 m9 hb4 ⊢
                have HBL := Lib.hid hb4
                clear hb2 hbw2 hrow m1 m2 m3 m4 m5 m6 m7 m8 m9 hb4
                have HOWN2 := Lib.hid (own_keep HOWN.out HBL.out)
                have HBX := Lib.hid (HBW.out.trans (HBL.out.mono hsT))
                have HO := Lib.hid (own_from HOWN.out)
                go_wp2_with (at_builtin
                             refine wpList_append_own _ rfl _ _ 27 rfl T 36 j0 (.agg #[.int .i64 0, .string ⟨#[]⟩, .int .i64 0, .int .i64 0]) 4 40 Try.underlying27 hj hy0 hy1 hy2 rfl (by decide) _ _ _ rfl (HOWN2.out.alloc _) ⟨_, 0, none⟩ 1 1 [.int .i64 2, .string (ba t), .int .i64 p, .int .i64 ((p : Int) + (n : Int))] rfl rfl (cell_four_new _ _ _ _ _ _) (by intro u hu; simp at hu; rcases hu with rfl | rfl | rfl | rfl <;> rfl) (by unfold maxLen; omega) (by omega) (by have := HBX.out.size; have := HT.out; simp; omega) ?_
                             intro v' w5 hE5 hg5 hg5b
                             have hb5 : Below T w w5 := (HBX.out.alloc (by have := HT.out; have := HBX.out.size; omega) _).grown hg5 (by have := HBX.out.size; have := HT.out; simp; omega) (fun j e => HO.out j e)
                             have g3 := hg5.cell ((((Below.refl _ wt).alloc (Nat.le_refl _) _).cell (p := ⟨wr.heap.size, 3, none⟩) (World.block_lt_of_cell? wt _ f3)).trans f3) (fun e => absurd (HOWN.out.lt _ e.symm).2 (Nat.lt_irrefl _)))
                go_roundw
                case rel => exact ⟨p + n, d + 1, acc ++ [(2, t, p, p + n)], by go_num, by go_num, by have := HS2.out; rw [show newD 2 d = d + 1 from rfl] at this; exact this, by rw [flatT_one, List.length_append]; exact hE5, hb5⟩
                case measure => simp [intOf] <;> omega
              · have hkb2 : ((k : Int) == 2) = false := by simp; omega
                by_cases hk3b : k = 3
                · subst hk3b
                  have hd0 : 1 ≤ d := by
                    rcases Nat.eq_zero_or_pos d with h | h
                    · exact absurd ⟨rfl, h⟩ hk3
                    · exact h
                  go_wp2_with fail
                  refine (HLK.out _).mono ?_
                  rintro e w2 ⟨rfl, rfl⟩
                  go_wp2_with fail
                  refine (HC.out _).mono ?_
                  rintro e w2 ⟨rfl, hb2⟩
                  have hrow := (hb2.block wr.heap.size (by simp)).trans (tok_none wr 36)
                  have hbw2 : Below wr.heap.size wr w2 := ((Below.refl _ _).alloc (Nat.le_refl _) _).trans (hb2.mono (by simp))
                  obtain ⟨m1, m2, m3, m4, m5, m6, m7, m8, m9⟩ := row4 (v0 := .int .i64 3) (v1 := .string (ba t)) (v2 := .int .i64 p) (v3 := .int .i64 ((p : Int) + (n : Int))) hrow
                  obtain ⟨f0, f1, f2, f3⟩ := cells4_of m9
                  have hb4 := below4 (v0 := .int .i64 3) (v1 := .string (ba t)) (v2 := .int .i64 p) (v3 := .int .i64 ((p : Int) + (n : Int))) hbw2 (Nat.le_refl wr.heap.size)
                  go_upto_region 13 with fail
                  generalize (((w2.setCell ⟨wr.heap.size, 0, none⟩ (.int .i64 3)).setCell ⟨wr.heap.size, 1, none⟩ (.string (ba t))).setCell ⟨wr.heap.size, 2, none⟩ (.int .i64 p)).setCell ⟨wr.heap.size, 3, none⟩ (.int .i64 ((p : Int) + (n : Int))) = wt at f0 f1 f2 f3 m9 hb4 ⊢
                  have HBL := Lib.hid hb4
                  clear hb2 hbw2 hrow m1 m2 m3 m4 m5 m6 m7 m8 m9 hb4
                  have HOWN2 := Lib.hid (own_keep HOWN.out HBL.out)
                  have HBX := Lib.hid (HBW.out.trans (HBL.out.mono hsT))
                  have HO := Lib.hid (own_from HOWN.out)
                  go_wp2_with (at_builtin
                               refine wpList_append_own _ rfl _ _ 27 rfl T 36 j0 (.agg #[.int .i64 0, .string ⟨#[]⟩, .int .i64 0, .int .i64 0]) 4 40 Try.underlying27 hj hy0 hy1 hy2 rfl (by decide) _ _ _ rfl (HOWN2.out.alloc _) ⟨_, 0, none⟩ 1 1 [.int .i64 3, .string (ba t), .int .i64 p, .int .i64 ((p : Int) + (n : Int))] rfl rfl (cell_four_new _ _ _ _ _ _) (by intro u hu; simp at hu; rcases hu with rfl | rfl | rfl | rfl <;> rfl) (by unfold maxLen; omega) (by omega) (by have := HBX.out.size; have := HT.out; simp; omega) ?_
                               intro v' w5 hE5 hg5 hg5b
                               have hb5 : Below T w w5 := (HBX.out.alloc (by have := HT.out; have := HBX.out.size; omega) _).grown hg5 (by have := HBX.out.size; have := HT.out; simp; omega) (fun j e => HO.out j e)
                               have g3 := hg5.cell ((((Below.refl _ wt).alloc (Nat.le_refl _) _).cell (p := ⟨wr.heap.size, 3, none⟩) (World.block_lt_of_cell? wt _ f3)).trans f3) (fun e => absurd (HOWN.out.lt _ e.symm).2 (Nat.lt_irrefl _)))
                  go_roundw
                  case rel => exact ⟨p + n, d - 1, acc ++ [(3, t, p, p + n)], by go_num, by congr 1; omega, by have := HS2.out; rw [show newD 3 d = d - 1 from rfl] at this; exact this, by rw [flatT_one, List.length_append]; exact hE5, hb5⟩
                  case measure => simp [intOf] <;> omega
                · have hkb3 : ((k : Int) == 3) = false := by simp; omega
                  have hnd : newD k d = d := by unfold newD; rw [if_neg hk2, if_neg hk3b]
                  go_wp2_with fail
                  refine (HLK.out _).mono ?_
                  rintro e w2 ⟨rfl, rfl⟩
                  go_wp2_with fail
                  refine (HC.out _).mono ?_
                  rintro e w2 ⟨rfl, hb2⟩
                  have hrow := (hb2.block wr.heap.size (by simp)).trans (tok_none wr 36)
                  have hbw2 : Below wr.heap.size wr w2 := ((Below.refl _ _).alloc (Nat.le_refl _) _).trans (hb2.mono (by simp))
                  obtain ⟨m1, m2, m3, m4, m5, m6, m7, m8, m9⟩ := row4 (v0 := .int .i64 k) (v1 := .string (ba t)) (v2 := .int .i64 p) (v3 := .int .i64 ((p : Int) + (n : Int))) hrow
                  obtain ⟨f0, f1, f2, f3⟩ := cells4_of m9
                  have hb4 := below4 (v0 := .int .i64 k) (v1 := .string (ba t)) (v2 := .int .i64 p) (v3 := .int .i64 ((p : Int) + (n : Int))) hbw2 (Nat.le_refl wr.heap.size)
                  go_upto_region 13 with fail
                  generalize (((w2.setCell ⟨wr.heap.size, 0, none⟩ (.int .i64 k)).setCell ⟨wr.heap.size, 1, none⟩ (.string (ba t))).setCell ⟨wr.heap.size, 2, none⟩ (.int .i64 p)).setCell ⟨wr.heap.size, 3, none⟩ (.int .i64 ((p : Int) + (n : Int))) = wt at f0 f1 f2 f3 m9 hb4 ⊢
                  have HBL := Lib.hid hb4
                  clear hb2 hbw2 hrow m1 m2 m3 m4 m5 m6 m7 m8 m9 hb4
                  have HOWN2 := Lib.hid (own_keep HOWN.out HBL.out)
                  have HBX := Lib.hid (HBW.out.trans (HBL.out.mono hsT))
                  have HO := Lib.hid (own_from HOWN.out)
                  go_wp2_with (at_builtin
                               refine wpList_append_own _ rfl _ _ 27 rfl T 36 j0 (.agg #[.int .i64 0, .string ⟨#[]⟩, .int .i64 0, .int .i64 0]) 4 40 Try.underlying27 hj hy0 hy1 hy2 rfl (by decide) _ _ _ rfl (HOWN2.out.alloc _) ⟨_, 0, none⟩ 1 1 [.int .i64 k, .string (ba t), .int .i64 p, .int .i64 ((p : Int) + (n : Int))] rfl rfl (cell_four_new _ _ _ _ _ _) (by intro u hu; simp at hu; rcases hu with rfl | rfl | rfl | rfl <;> rfl) (by unfold maxLen; omega) (by omega) (by have := HBX.out.size; have := HT.out; simp; omega) ?_
                               intro v' w5 hE5 hg5 hg5b
                               have hb5 : Below T w w5 := (HBX.out.alloc (by have := HT.out; have := HBX.out.size; omega) _).grown hg5 (by have := HBX.out.size; have := HT.out; simp; omega) (fun j e => HO.out j e)
                               have g3 := hg5.cell ((((Below.refl _ wt).alloc (Nat.le_refl _) _).cell (p := ⟨wr.heap.size, 3, none⟩) (World.block_lt_of_cell? wt _ f3)).trans f3) (fun e => absurd (HOWN.out.lt _ e.symm).2 (Nat.lt_irrefl _)))
                  go_roundw
                  case rel => exact ⟨p + n, d, acc ++ [(k, t, p, p + n)], by go_num, rfl, by have := HS2.out; rw [hnd] at this; exact this, by rw [flatT_one, List.length_append]; exact hE5, hb5⟩
                  case measure => simp [intOf] <;> omega
      · obtain ⟨f1, f2⟩ := hst.fin (by omega)
        have hpe : p = l.length := by omega
        have HOWN := Lib.hid hown
        have HBW := Lib.hid hb
        have p1 : ((ba l).size : Int) ≤ (p : Int) := by omega
        by_cases hd0 : d = 0
        · subst hd0
          rw [if_pos rfl] at f2
          obtain ⟨q1, q2, q3⟩ := HF.out acc f1 f2
          have HQ := Lib.hid (And.intro q1 (And.intro q2 q3))
          clear hst hown hb q1 q2 q3 f1 f2
          go_wp2
          go_ret3
          obtain ⟨q1, q2, q3⟩ := HQ.out
          rw [q1, q2, q3]
          exact ⟨_, rfl, IsToks.of_own HOWN.out, HBW.out⟩
        · rw [if_neg hd0] at f2
          obtain ⟨q1, q2, q3⟩ := HB.out _ f2
          have HQ := Lib.hid (And.intro q1 (And.intro q2 q3))
          have hd1 : (0 : Int) < (d : Int) := by omega
          clear hst hown hb q1 q2 q3 f1 f2
          go_wp2
          go_ret3
          obtain ⟨q1, q2, q3⟩ := HQ.out
          rw [q1, q2, q3]
          exact ⟨_, rfl, IsToks.nil _ _, HBW.out⟩
end Go.Proofs.Ytpjafemkdoeflaa
