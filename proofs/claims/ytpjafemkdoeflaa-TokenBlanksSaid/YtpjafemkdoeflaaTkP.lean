/-
  token.Tokens: the tokens of a text. (Printed by gen_TkP.py.)
-/
import Derived.Test.YtpjafemkdoeflaaTkO
namespace Go.Proofs.Ytpjafemkdoeflaa
open Go.RowKit

def modesL (d : Nat) : List Value := (List.range d).map fun i => Value.bool (decide (i % 2 = 1))
theorem modesL_len (d : Nat) : (modesL d).length = d := by simp [modesL]
theorem modesL_more (d : Nat) : modesL (d + 1) = modesL d ++ [.bool (decide (d % 2 = 1))] := by unfold modesL; rw [List.range_succ, List.map_append]; rfl
theorem modesL_last (d : Nat) : (modesL (d + 1))[d]? = some (.bool (decide (d % 2 = 1))) := by rw [modesL_more, List.getElem?_append_right (by rw [modesL_len]; exact Nat.le_refl _), modesL_len, Nat.sub_self]; rfl
theorem modesL_drop (d : Nat) : (modesL (d + 1)).dropLast = modesL d := by rw [modesL_more, List.dropLast_concat]
theorem odd_more (d : Nat) : decide ((d + 1) % 2 = 1) = !decide (d % 2 = 1) := by
  by_cases h : d % 2 = 1
  · rw [decide_eq_true h, decide_eq_false (by omega)]; rfl
  · rw [decide_eq_false h, decide_eq_true (by omega)]; rfl
theorem flatT_one (acc : List Tok) (x : Tok) : flatT (acc ++ [x]) = flatT acc ++ cellsT x := by rw [flatT_app]; unfold flatT; simp

set_option maxRecDepth 100000 in
set_option maxHeartbeats 8000000 in
theorem tokens_any (l : By) (hl : l.length ≤ 1000000000) (w : World) : Calls Try.prog 9 #[.string (ba l)] w (ToksP l w) := by
  unfold ToksP
  have hsz : (ba l).size = l.length := rfl
  by_cases h4 : 4000 < l.length
  · obtain ⟨q1, q2, q3⟩ := toks_long h4
    rw [q1, q2, q3]
    have h4' : (4000 : Int) < ((ba l).size : Int) := by rw [hsz]; omega
    go_enter Try.func9, Try.ntmps9
    go_wp2
    go_ret3
    exact ⟨_, rfl, IsToks.nil _ _, Below.refl _ _⟩
  · obtain ⟨j0, hj, hy0, hy1, hy2⟩ := info_parts Try.infoTok
    obtain ⟨i0, hi, hz0, hz1, hz2⟩ := info_parts Try.infoBool
    have hfin := fun ts h1 h2 => toks_good (l := l) (ts := ts) h4 h1 h2
    have hbad := fun p h2 => toks_bad (l := l) (p := p) h4 h2
    have h4' : ((ba l).size : Int) ≤ 4000 := by rw [hsz]; omega
    obtain ⟨O, hO⟩ : ∃ O, outL l = O := ⟨_, rfl⟩
    obtain ⟨A, hA⟩ : ∃ A, atV l = A := ⟨_, rfl⟩
    obtain ⟨E, hE⟩ : ∃ E, errV l = E := ⟨_, rfl⟩
    rw [hO, hA, hE]
    simp only [hO, hA, hE] at hfin hbad
    have HF := Lib.hid hfin
    have HB := Lib.hid hbad
    obtain ⟨T, hT⟩ : ∃ T, T = w.heap.size := ⟨_, rfl⟩
    have HT := Lib.hid hT
    rw [← hT]
    clear hfin hbad hO hA hE hT
    go_enter Try.func9, Try.ntmps9
    go_wp2
    go_loopw [2, 3, 5, 6, 7, 8, 9] (fun lv pv mv bv _ _ _ wr => ∃ (p d : Nat) (acc : List Tok), pv = .int .i64 p ∧ bv = .bool (decide (d % 2 = 1)) ∧ TokSt l p d acc ∧ wr.ownsRow T 4 1 mv d (modesL d) ∧ wr.ownsRow T 34 4 lv acc.length (flatT acc) ∧ Below T w wr) (fun _ pv _ _ _ _ _ _ => l.length - (intOf pv).toNat)
    case atStart => exact ⟨0, 0, [], rfl, rfl, TokSt.start l, World.ownsRow_nil _ _ _ _, World.ownsRow_nil _ _ _ _, Below.refl _ _⟩
    case round =>
      obtain ⟨p, d, acc, rfl, rfl, hst, hm, hown, hb⟩ := hrel
      have p0 : (0 : Int) ≤ (p : Int) := by omega
      have hpl := hst.1
      have hac := hst.2.2.2.1
      have hdp := hst.2.2.2.2
      have hsT : T ≤ wr.heap.size := by rw [HT.out]; exact hb.size
      by_cases hlt : p < l.length
      · obtain ⟨c, r, hd⟩ : ∃ c r, l.drop p = c :: r := ⟨l[p], l.drop (p + 1), List.drop_eq_getElem_cons hlt⟩
        obtain ⟨_, hdr, hc⟩ := drop_at hd
        have hps : p < (ba l).size := hlt
        have hx : ((ba l)[p]'hps).toNat = c.toNat := by rw [hc hps]
        have p1 : (p : Int) < ((ba l).size : Int) := by omega
        have HST := Lib.hid hst
        have HM := Lib.hid hm
        have HOWN := Lib.hid hown
        have HBW := Lib.hid hb
        have HD := Lib.hid hd
        have hrl : r.length ≤ 100000 := by
          have := congrArg List.length hd
          rw [List.length_drop, List.length_cons] at this
          omega
        have HNX := Lib.hid (fun br W => next_any br c r hrl W)
        have hcut := ba_drop l p
        rw [hd, hsz] at hcut
        have HCUT := Lib.hid hcut
        clear hst hm hown hb hd hdr hc hcut
        by_cases hbl : d % 2 = 1 ∧ blB c = true
        · obtain ⟨ho, hcb⟩ := hbl
          have hst2 := HST.out.blank HD.out ho hcb
          have hcc : c = 32 ∨ c = 9 ∨ c = 10 := by
            have h := of_decide_eq_true hcb
            have e1 : (32 : UInt8).toNat = 32 := rfl
            have e2 : (9 : UInt8).toNat = 9 := rfl
            have e3 : (10 : UInt8).toNat = 10 := rfl
            rcases h with h | h | h
            · exact .inl (UInt8.toNat_inj.1 (by omega))
            · exact .inr (.inl (UInt8.toNat_inj.1 (by omega)))
            · exact .inr (.inr (UInt8.toNat_inj.1 (by omega)))
          have HS2 := Lib.hid hst2
          rw [decide_eq_true ho]
          have HOO := Lib.hid ho
          clear hst2 hcb HNX HCUT HST ho
          rcases hcc with rfl | rfl | rfl
          all_goals
            go_wp2
            go_roundw
            case rel => exact ⟨p + 1, d, acc, by go_num, by rw [decide_eq_true HOO.out], HS2.out, HM.out, HOWN.out, HBW.out⟩
            case measure => simp [intOf] <;> omega
        · -- a token
          have hnb : d % 2 = 1 → ((c.toNat : Int) == 32) = false ∧ ((c.toNat : Int) == 9) = false ∧ ((c.toNat : Int) == 10) = false := by
            intro ho
            have h : ¬ ((c.toNat : Int) = 32 ∨ (c.toNat : Int) = 9 ∨ (c.toNat : Int) = 10) := by
              intro h
              exact hbl ⟨ho, decide_eq_true h⟩
            refine ⟨?_, ?_, ?_⟩ <;> simp <;> omega
          have hmiss := HST.out.miss HD.out hbl
          have htok := fun k t n => HST.out.tok HD.out (k := k) (t := t) (n := n) hbl
          have hshut := fun t n (hd0 : d = 0) (h : tok1 (decide (d % 2 = 1)) (c :: r) = some (3, t, n)) => by
            subst hd0
            exact HST.out.shut HD.out h
          have hk0 := fun k t n (h : tok1 (decide (d % 2 = 1)) (c :: r) = some (k, t, n)) => tok1_kind h
          obtain ⟨b, hbd⟩ : ∃ b, decide (d % 2 = 1) = b := ⟨_, rfl⟩
          have hodd := odd_more d
          have hnx := HNX.out b
          unfold NextP at hnx
          rw [hbd] at hmiss hodd ⊢
          simp only [hbd] at htok hshut hk0
          have hnb : b = true → ((c.toNat : Int) == 32) = false ∧ ((c.toNat : Int) == 9) = false ∧ ((c.toNat : Int) == 10) = false := fun h => hnb (of_decide_eq_true (hbd.trans h))
          have HBD := Lib.hid hbd
          cases ho : tok1 b (c :: r) with
          | none =>
            rw [ho] at hnx
            unfold elV at hnx
            obtain ⟨q1, q2, q3⟩ := HB.out p (hmiss ho)
            have HNX := Lib.hid hnx
            have HQ := Lib.hid (And.intro q1 (And.intro q2 q3))
            clear hmiss htok hshut hk0 hodd hnx hbl hbd ho q1 q2 q3
            cases b
            case' true => obtain ⟨n1, n2, n3⟩ := hnb rfl
            all_goals
              clear hnb
              go_wp2_with fail
              rw [HCUT.out]
              refine (HNX.out _).mono ?_
              rintro e w2 ⟨rfl, hb2⟩
              have HB2 := Lib.hid (HBW.out.trans (hb2.mono hsT))
              clear hb2
              go_wp2
              go_ret3
              obtain ⟨q1, q2, q3⟩ := HQ.out
              rw [q1, q2, q3]
              exact ⟨_, rfl, IsToks.nil _ _, HB2.out⟩
          | some q =>
            obtain ⟨k, t, n⟩ := q
            rw [ho] at hnx
            unfold elV at hnx
            have HNX := Lib.hid hnx
            have hk0 := hk0 k t n ho
            by_cases hk3 : k = 3 ∧ d = 0
            · obtain ⟨rfl, rfl⟩ := hk3
              obtain ⟨q1, q2, q3⟩ := HB.out p (hshut t n rfl ho)
              have HQ := Lib.hid (And.intro q1 (And.intro q2 q3))
              have hbf : b = false := by rw [← HBD.out]; rfl
              subst hbf
              obtain ⟨aom, cam, rfl⟩ : ∃ ao ca, u5 = .slice ao 0 ca := by
                rcases HM.out.2 with ⟨hv, _⟩ | ⟨g, cap, cur, hv, _⟩
                · exact ⟨_, _, hv⟩
                · exact ⟨_, _, hv⟩
              clear hmiss htok hshut hk0 hodd hnx hbl hbd ho q1 q2 q3 hnb
              go_wp2_with fail
              rw [HCUT.out]
              refine (HNX.out _).mono ?_
              rintro e w2 ⟨rfl, hb2⟩
              have HB2 := Lib.hid (HBW.out.trans (hb2.mono hsT))
              clear hb2
              go_wp2
              go_ret3
              obtain ⟨q1, q2, q3⟩ := HQ.out
              rw [q1, q2, q3]
              exact ⟨_, rfl, IsToks.nil _ _, HB2.out⟩
            · obtain ⟨hs2, hn1, hpn⟩ := htok k t n ho hk3
              have HS2 := Lib.hid hs2
              have HO := Lib.hid (own_from HOWN.out)
              have hkz : ((k : Int) == 0) = false := by simp; omega
              have hadv : 1 ≤ n := hn1
              clear hmiss htok hshut hnx hbl hbd ho hs2 hk0
              by_cases hk2 : k = 2
              · subst hk2
                clear hk3
                cases b
                case' true => obtain ⟨n1, n2, n3⟩ := hnb rfl
                all_goals
                  clear hnb
                  go_wp2_with fail
                  rw [HCUT.out]
                  refine (HNX.out _).mono ?_
                  rintro e w2 ⟨rfl, hb2⟩
                  have HM2 := Lib.hid (own_keep HM.out hb2)
                  have HOWN2 := Lib.hid (own_keep HOWN.out hb2)
                  have HB2 := Lib.hid (HBW.out.trans (hb2.mono hsT))
                  have hsT2 : T ≤ w2.heap.size := Nat.le_trans hsT hb2.size
                  clear hb2
                  go_wp2_with (at_builtin; first
                    | (refine wpList_append_own _ rfl _ _ 43 rfl T 4 i0 (.bool false) 1 1 Try.underlying43 hi hz0 hz1 hz2 rfl (by decide) _ _ _ rfl (HM2.out.alloc _) ⟨w2.heap.size, 0, none⟩ 1 1 [_] rfl rfl (cell_one_new _ _ _) (by intro u hu; simp at hu; subst hu; rfl) (by unfold maxLen; omega) (by omega) (by simp; omega) ?_
                       intro v3 w3 hE3 hg3 hg3b
                       have hb3 : Below T w w3 := (HB2.out.alloc (by have := HT.out; omega) _).grown hg3 (by simp; omega) (fun j e => own_from HM.out j e)
                       have ho3 := own_grown (own_keep HOWN2.out ((Below.refl _ _).alloc (Nat.le_refl _) _)) hg3 (own_kind (HM2.out.alloc _)) (by decide)
                       have hsT3 : T ≤ w3.heap.size := by rw [HT.out]; exact hb3.size)
                    | (refine wpList_append_own _ rfl _ _ 23 rfl T 34 j0 (.agg #[.int .i64 0, .string ⟨#[]⟩, .int .i64 0, .int .i64 0]) 4 40 Try.underlying23 hj hy0 hy1 hy2 rfl (by decide) _ _ _ rfl (ho3.alloc _) ⟨w3.heap.size, 0, none⟩ 1 1 [.int .i64 2, .string (ba t), .int .i64 p, .int .i64 ((p : Int) + (n : Int))] rfl rfl (cell_four_new _ _ _ _ _ _) (by intro u hu; simp at hu; rcases hu with rfl | rfl | rfl | rfl <;> rfl) (by unfold maxLen; omega) (by omega) (by simp; omega) ?_
                       intro v' w5 hE5 hg5 hg5b
                       have hb5 : Below T w w5 := (hb3.alloc (by have := HT.out; omega) _).grown hg5 (by simp; omega) (fun j e => own_from ho3 j e)
                       have hm5 := own_grown (own_keep hE3 ((Below.refl _ _).alloc (Nat.le_refl _) _)) hg5 (own_kind (ho3.alloc _)) (by decide)))
                  go_roundw
                  case rel => exact ⟨p + n, d + 1, acc ++ [(2, t, p, p + n)], by go_num, by rw [hodd]; rfl, HS2.out, by rw [modesL_more, HBD.out]; exact hm5, by rw [flatT_one, List.length_append]; exact hE5, hb5⟩
                  case measure => simp [intOf] <;> omega
              · have hkb2 : ((k : Int) == 2) = false := by simp; omega
                by_cases hk3b : k = 3
                · subst hk3b
                  have hd0 : d ≠ 0 := fun h => hk3 ⟨rfl, h⟩
                  obtain ⟨d', rfl⟩ : ∃ d', d = d' + 1 := ⟨d - 1, by omega⟩
                  clear hk3
                  obtain ⟨aom, cam, rfl⟩ : ∃ ao ca, u5 = .slice ao (d' + 1) ca := by
                    rcases HM.out.2 with ⟨hv, h0⟩ | ⟨g, cap, cur, hv, _⟩
                    · exact absurd h0 (by omega)
                    · exact ⟨_, _, hv⟩
                  have hlast := own_last HM.out _ (modesL_last d')
                  obtain ⟨gm, rfl, hcm⟩ := hlast
                  have hless := own_less HM.out
                  rw [modesL_drop] at hless
                  have HLESS := Lib.hid hless
                  have hd1 : (0 : Int) < ((d' + 1 : Nat) : Int) := by omega
                  have hcap : d' + 1 ≤ cam := by
                    rcases HM.out.2 with ⟨hv, h0⟩ | ⟨g, cap, cur, hv, _, _, h9, _⟩
                    · exact absurd h0 (by omega)
                    · cases hv; exact h9
                  clear hless
                  cases b
                  case' true => obtain ⟨n1, n2, n3⟩ := hnb rfl
                  all_goals
                    clear hnb
                    go_wp2_with fail
                    rw [HCUT.out]
                    refine (HNX.out _).mono ?_
                    rintro e w2 ⟨rfl, hb2⟩
                    have HM2 := Lib.hid (own_keep HLESS.out hb2)
                    have hcm2 := (hb2.cell (p := ⟨gm, d', none⟩) (World.block_lt_of_cell? wr _ hcm)).trans hcm
                    have HOWN2 := Lib.hid (own_keep HOWN.out hb2)
                    have HB2 := Lib.hid (HBW.out.trans (hb2.mono hsT))
                    have hsT2 : T ≤ w2.heap.size := Nat.le_trans hsT hb2.size
                    clear hb2
                    have hown2 := HOWN2.out
                    go_wp2_with (at_builtin; refine wpList_append_own _ rfl _ _ 23 rfl T 34 j0 (.agg #[.int .i64 0, .string ⟨#[]⟩, .int .i64 0, .int .i64 0]) 4 40 Try.underlying23 hj hy0 hy1 hy2 rfl (by decide) _ _ _ rfl (hown2.alloc _) ⟨w2.heap.size, 0, none⟩ 1 1 [.int .i64 3, .string (ba t), .int .i64 p, .int .i64 ((p : Int) + (n : Int))] rfl rfl (cell_four_new _ _ _ _ _ _) (by intro u hu; simp at hu; rcases hu with rfl | rfl | rfl | rfl <;> rfl) (by unfold maxLen; omega) (by omega) (by simp; omega) ?_; intro v' w5 hE5 hg5 hg5b)
                    have hb5 : Below T w w5 := (HB2.out.alloc (by have := HT.out; omega) _).grown hg5 (by simp; omega) (fun j e => HO.out j e)
                    have hm5 := own_grown (own_keep HM2.out ((Below.refl _ _).alloc (Nat.le_refl _) _)) hg5 (own_kind (hown2.alloc _)) (by decide)
                    have HE5 := Lib.hid hE5
                    have HB5 := Lib.hid hb5
                    have HM5 := Lib.hid hm5
                    clear hE5 hg5 hg5b hb5 hm5 hown2
                    go_wp2
                    go_roundw
                    case rel => exact ⟨p + n, d', acc ++ [(3, t, p, p + n)], by go_num, rfl, HS2.out, HM5.out, by rw [flatT_one, List.length_append]; exact HE5.out, HB5.out⟩
                    case measure => simp [intOf] <;> omega
                · have hkb3 : ((k : Int) == 3) = false := by simp; omega
                  have hnd : newD k d = d := by unfold newD; rw [if_neg hk2, if_neg hk3b]
                  clear hk3
                  cases b
                  case' true => obtain ⟨n1, n2, n3⟩ := hnb rfl
                  all_goals
                    clear hnb
                    go_wp2_with fail
                    rw [HCUT.out]
                    refine (HNX.out _).mono ?_
                    rintro e w2 ⟨rfl, hb2⟩
                    have HM2 := Lib.hid (own_keep HM.out hb2)
                    have HOWN2 := Lib.hid (own_keep HOWN.out hb2)
                    have HB2 := Lib.hid (HBW.out.trans (hb2.mono hsT))
                    have hsT2 : T ≤ w2.heap.size := Nat.le_trans hsT hb2.size
                    clear hb2
                    have hown2 := HOWN2.out
                    go_wp2_with (at_builtin; refine wpList_append_own _ rfl _ _ 23 rfl T 34 j0 (.agg #[.int .i64 0, .string ⟨#[]⟩, .int .i64 0, .int .i64 0]) 4 40 Try.underlying23 hj hy0 hy1 hy2 rfl (by decide) _ _ _ rfl (hown2.alloc _) ⟨w2.heap.size, 0, none⟩ 1 1 [.int .i64 k, .string (ba t), .int .i64 p, .int .i64 ((p : Int) + (n : Int))] rfl rfl (cell_four_new _ _ _ _ _ _) (by intro u hu; simp at hu; rcases hu with rfl | rfl | rfl | rfl <;> rfl) (by unfold maxLen; omega) (by omega) (by simp; omega) ?_; intro v' w5 hE5 hg5 hg5b)
                    have hb5 : Below T w w5 := (HB2.out.alloc (by have := HT.out; omega) _).grown hg5 (by simp; omega) (fun j e => HO.out j e)
                    have hm5 := own_grown (own_keep HM2.out ((Below.refl _ _).alloc (Nat.le_refl _) _)) hg5 (own_kind (hown2.alloc _)) (by decide)
                    have HE5 := Lib.hid hE5
                    have HB5 := Lib.hid hb5
                    have HM5 := Lib.hid hm5
                    clear hE5 hg5 hg5b hb5 hm5 hown2
                    go_wp2
                    go_roundw
                    case rel => exact ⟨p + n, d, acc ++ [(k, t, p, p + n)], by go_num, by rw [HBD.out], by have := HS2.out; rw [hnd] at this; exact this, HM5.out, by rw [flatT_one, List.length_append]; exact HE5.out, HB5.out⟩
                    case measure => simp [intOf] <;> omega
      · obtain ⟨f1, f2⟩ := hst.fin (by omega)
        have hpe : p = l.length := by omega
        have HM := Lib.hid hm
        have HOWN := Lib.hid hown
        have HBW := Lib.hid hb
        have p1 : ((ba l).size : Int) ≤ (p : Int) := by omega
        obtain ⟨aom, cam, rfl⟩ : ∃ ao ca, u5 = .slice ao d ca := by
          rcases hm.2 with ⟨hv, h0⟩ | ⟨g, cap, cur, hv, _⟩
          · exact ⟨none, 0, by rw [hv, h0]⟩
          · exact ⟨_, _, hv⟩
        by_cases hd0 : d = 0
        · subst hd0
          rw [if_pos rfl] at f2
          obtain ⟨q1, q2, q3⟩ := HF.out acc f1 f2
          have HQ := Lib.hid (And.intro q1 (And.intro q2 q3))
          clear hst hm hown hb q1 q2 q3 f1 f2
          go_wp2
          go_ret3
          obtain ⟨q1, q2, q3⟩ := HQ.out
          rw [q1, q2, q3]
          exact ⟨_, rfl, IsToks.of_own HOWN.out, HBW.out⟩
        · rw [if_neg hd0] at f2
          obtain ⟨q1, q2, q3⟩ := HB.out _ f2
          have HQ := Lib.hid (And.intro q1 (And.intro q2 q3))
          have hd1 : (0 : Int) < (d : Int) := by omega
          clear hst hm hown hb q1 q2 q3 f1 f2
          go_wp2
          go_ret3
          obtain ⟨q1, q2, q3⟩ := HQ.out
          rw [q1, q2, q3]
          exact ⟨_, rfl, IsToks.nil _ _, HBW.out⟩
end Go.Proofs.Ytpjafemkdoeflaa
