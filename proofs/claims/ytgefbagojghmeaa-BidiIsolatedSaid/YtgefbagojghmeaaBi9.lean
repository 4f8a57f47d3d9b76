/-
  calqueref23.fill: puts the levels of a segment.
-/
import Derived.Test.YtgefbagojghmeaaBi7
import Derived.Test.YtgefbagojghmeaaRowW
import Derived.Deep.DeepCutAuto
import Derived.Deep.CutBlock
import Derived.StillTailTactics
namespace Go.Proofs.Ytgefbagojghmeaa
open Go.RowKit

theorem grown_dr {g : Nat} {w wr : World} (h : w.grownBy wr (some g)) : w.grownBy { wr with drawn := wr.drawn + 1 } (some g) := ⟨h.os, h.tape, h.output, h.size, h.block⟩
set_option maxRecDepth 100000 in
set_option maxHeartbeats 8000000 in
theorem fill_any (v : Value) (xs : List Int) (B g : Nat) (hx : xs.length ≤ 400) (hBg : B ≤ g) : ∀ (m a b e : Nat) (L : List Int) (w : World), b - a ≤ m → a ≤ xs.length → b ≤ xs.length → Shut xs a b → e + 2 * (b - a) ≤ 1000 → L.length = xs.length → IsInts w B v xs → RowW g w L →
    Calls Try.prog 40 #[.slice (some ⟨g, 0, none⟩) xs.length xs.length, v, .int .i64 a, .int .i64 b, .int .i64 e] w (FillP xs g a b e L w) := by
  intro m
  induction m using Nat.strongRecOn with
  | ind m ih =>
  intro a b e L w hm ha hb hs he hL hv hrow
  have hgl := hrow.lt
  have hri := ritems_any v xs B a b e w hv (by omega) (by omega) ha hb (by omega)
  have hin := fun W k (hW : IsInts W B v xs) h1 h2 => inner_any v xs B k e W hW (by omega) h1 h2 (by omega)
  have hih : ∀ (i t e' : Nat) (L' : List Int) (W : World), a ≤ i → i < b → i + 1 ≤ t → t ≤ b → initB (xs.getD i 0) = true → t = matchV xs i → e' ≤ e + 2 → L'.length = xs.length → IsInts W B v xs → RowW g W L' → Calls Try.prog 40 #[.slice (some ⟨g, 0, none⟩) xs.length xs.length, v, .int .i64 (i + 1 : Nat), .int .i64 t, .int .i64 e'] W (FillP xs g (i + 1) t e' L' W) := by
    intro i t e' L' W h1 h2 h3 h4 h5 h6 h7 h8 h9 h10
    exact ih (t - (i + 1)) (by omega) (i + 1) t e' L' W (Nat.le_refl _) (by omega) (by omega) (by rw [h6]; exact shut_inside (by omega) h5) (by omega) h8 h9 h10
  have hfl := fun i t (e' : Int) (L' : List Int) (h1 : a ≤ i) (h2 : i < b) (h3 : t ≤ b) (h4 : Shut xs (i + 1) t) => fillF_fuel (t - (i + 1) + 1) (b - a) (i + 1) t e' L' (by omega) h4 (by omega) (by omega)
  clear ih
  have hvb := fun (W : World) (h : Below B w W) => hv.below h
  obtain ⟨ao, ca, rfl, _⟩ := hv
  obtain ⟨hil, hiok⟩ := items_ok (xs := xs) (b := b) hb (b - a) a (Nat.le_refl _)
  have hic := items_cls0 (xs := xs) (b := b) hb (b - a) a (Nat.le_refl _)
  unfold FillP at hih ⊢
  rw [fillF_eq]
  unfold itLv
  have hcs : ∀ c ∈ (items xs a b).map (fun x => x.2.2), 0 ≤ c ∧ c ≤ 3 := by
    intro c hm
    obtain ⟨x, hx, rfl⟩ := List.mem_map.1 hm
    obtain ⟨_, _, h3, h4, _⟩ := hiok x hx
    exact ⟨h3, h4⟩
  have e0 : (0 : Int) ≤ (e : Int) := by omega
  have hst := fun d hd W => rstrong_any d (e : Int) e0 (by omega) hd W
  have hso := own_or (e : Int)
  unfold items4 clsOf at hri
  have hcsl : ((items xs a b).map fun x => x.2.2).length = (items xs a b).length := List.length_map ..
  have hlx : ∀ i x, (items xs a b)[i]? = some x → ((items xs a b).map fun x => x.2.2).getD i 0 = x.2.2 := by
    intro i x hx
    simp [List.getD, hx]
  obtain ⟨IT, hIT⟩ : ∃ IT, items xs a b = IT := ⟨_, rfl⟩
  rw [hIT] at hri hil hiok hic hcs hcsl hlx
  rw [hIT]
  obtain ⟨cs, hcsd⟩ : ∃ cs, IT.map (fun x => x.2.2) = cs := ⟨_, rfl⟩
  rw [hcsd] at hri hcs hcsl hlx
  rw [hcsd]
  have hS := St.start (e : Int) cs
  have hDl := dirs_len cs (own e)
  have hFl := lvls_len (e : Int) cs (own e)
  have hdz0 := dirs_zero cs (own e) (own_or _) hcs
  obtain ⟨P, hP⟩ : ∃ P, p1 (e : Int) (own e) cs = P := ⟨_, rfl⟩
  obtain ⟨D, hD⟩ : ∃ D, dirs (own e) cs = D := ⟨_, rfl⟩
  obtain ⟨F, hF⟩ : ∃ F, lvls (e : Int) (own e) cs = F := ⟨_, rfl⟩
  rw [hP] at hS
  rw [hD] at hS hDl hri hdz0
  rw [hF] at hS hFl
  rw [hF]
  rw [hcsl] at hDl hFl
  obtain ⟨N, hN⟩ : ∃ N, N = IT.length := ⟨_, rfl⟩
  rw [← hN] at hDl hFl hcsl hil
  have hzl : (IT.zip D).length = N := by rw [List.length_zip, hDl, ← hN, Nat.min_self]
  rw [hzl] at hri
  have hzF : (IT.zip F).length = N := by rw [List.length_zip, hFl, ← hN, Nat.min_self]
  obtain ⟨FR, hFR⟩ : ∃ FR, (IT.zip F).foldl (fillStep xs (b - a) e) L = FR := ⟨_, rfl⟩
  rw [hFR]
  obtain ⟨n, hn⟩ : ∃ n, n = xs.length := ⟨_, rfl⟩
  rw [← hn] at hL hx ha hb hih hri
  simp only [← hn] at hin hvb hih
  rw [← hn]
  have e1 : (e : Int).tmod 2 = (e : Int) % 2 := Int.tmod_eq_emod_of_nonneg e0
  have hoe : own (e : Int) = 1 + (e : Int) % 2 := rfl
  obtain ⟨O, hO⟩ : ∃ O, own (e : Int) = O := ⟨_, rfl⟩
  rw [hO] at hS hso hoe
  have hE2 : (e : Int) % 2 = O - 1 := by omega
  rw [hE2] at e1
  have HRI := Lib.hid hri
  have HIN := Lib.hid hin
  have HIH := Lib.hid hih
  have HFL := Lib.hid hfl
  have HVB := Lib.hid hvb
  have HOK := Lib.hid hiok
  have HIC := Lib.hid hic
  have HCS := Lib.hid hcs
  have HST := Lib.hid hst
  have HLX := Lib.hid hlx
  have HS := Lib.hid hS
  have HDL := Lib.hid hDl
  have HFLn := Lib.hid hFl
  have HN := Lib.hid hN
  have HCL := Lib.hid hcsl
  have HFR := Lib.hid hFR
  have HO := Lib.hid hO
  have HROW := Lib.hid hrow
  have HSH := Lib.hid hs
  have HE2 := Lib.hid hE2
  have Hn := Lib.hid hn
  have HZ1 := Lib.hid hzl
  have HZ2 := Lib.hid hzF
  have HLn := Lib.hid hL
  clear hri hin hih hfl hvb hiok hic hcs hst hlx hS hDl hFl hN hcsl hFR hO hrow hs hE2 hn hIT hcsd hP hD hF hoe hzl hzF hL
  rcases hso with rfl | rfl
  all_goals
    go_enter Try.func40, Try.ntmps40
    go_wp2_with fail
    refine HRI.out.mono ?_
    rintro ex w1 ⟨r, rfl, hown, hb1⟩
    have HDZ0 := Lib.hid hdz0
    clear hdz0
    have hi4 := hown
    have hown' : w1.ownsRow w.heap.size 78 4 r (IT.zip D).length (flat4 (IT.zip D)) := by rw [HZ1.out]; exact hown
    obtain ⟨ao4, c4, rfl, h4⟩ := IsItems4.of_own hown'
    rw [HZ1.out] at h4 hown'
    rw [HZ1.out]
    have hfrom := own_from hown'
    have H4 := Lib.hid h4
    have HFROM := Lib.hid hfrom
    have HB1 := Lib.hid hb1
    clear hown hown' hi4 h4 hfrom hb1
    first | (replace e1 : (e : Int).tmod 2 = 0 := e1) | (replace e1 : (e : Int).tmod 2 = 1 := e1)
    go_wp2
    go_loopw [12, 13, 14, 15, 16, 17, 18] (fun i _ _ _ _ _ _ wr => ∃ (k : Nat) (last : Int) (L' : List Int), k ≤ N ∧ i = .int .i64 k ∧ St e cs D P F k last ∧ Back cs D (own e) k last ∧ L'.length = n ∧ FR = ((IT.zip F).drop k).foldl (fillStep xs (b - a) e) L' ∧ RowW g wr L' ∧ w1.grownBy wr (some g)) (fun i _ _ _ _ _ _ _ => N - (intOf i).toNat)
    case atStart => exact ⟨0, _, L, Nat.zero_le _, rfl, HS.out, by rw [HO.out]; exact Back.start _ _ _, HLn.out, HFR.out.symm, (HB1.out.block g hgl).trans HROW.out, World.grownBy.refl _ _⟩
    case round =>
      obtain ⟨k, last, L', hk, rfl, hst, hbk, hLl, hfr, hrw, hgr⟩ := hrel
      have k0 : (0 : Int) ≤ (k : Int) := by omega
      by_cases hlt : k < N
      · have hx : IT[k]? = some (IT[k]'(by have := HN.out; omega)) := List.getElem?_eq_getElem _
        obtain ⟨x, hx'⟩ : ∃ x, IT[k]'(by have := HN.out; omega) = x := ⟨_, rfl⟩
        rw [hx'] at hx
        have hxm : x ∈ IT := by rw [← hx']; exact List.getElem_mem _
        have hok := HOK.out x hxm
        have hic := HIC.out x hxm
        have hcx := HLX.out k x hx
        have hkc : k < cs.length := by rw [HCL.out]; exact hlt
        obtain ⟨g4, o4, rfl, hg4, hcl⟩ := H4.out (by omega)
        have hg4T := HFROM.out g4 rfl
        have hdk : D[k]? = some (D.getD k 0) := by
          have : k < D.length := by rw [HDL.out]; exact hlt
          simp [List.getD, this]
        have hfk : F[k]? = some (F.getD k 0) := by
          have : k < F.length := by rw [HFLn.out]; exact hlt
          simp [List.getD, this]
        obtain ⟨q0, q1, q2, q3⟩ := hcl k (x, D.getD k 0) (by rw [List.getElem?_zip_eq_some]; exact ⟨hx, hdk⟩)
        have hzd : (IT.zip F).drop k = (x, F.getD k 0) :: (IT.zip F).drop (k + 1) := by
          have hlt' : k < (IT.zip F).length := by rw [HZ2.out]; exact hlt
          rw [List.drop_eq_getElem_cons hlt']
          congr 1
          have : (IT.zip F)[k]? = some (x, F.getD k 0) := by rw [List.getElem?_zip_eq_some]; exact ⟨hx, hfk⟩
          rw [List.getElem?_eq_getElem hlt'] at this
          exact Option.some.inj this
        rw [hzd, List.foldl_cons] at hfr
        have hne4 : some g4 ≠ some g := by intro e; cases e; omega
        have c0 := hgr.cell q0 hne4
        have c1 := hgr.cell q1 hne4
        have c2 := hgr.cell q2 hne4
        have c3 := hgr.cell q3 hne4
        have hall : ∀ j y, IT[j]? = some y → wr.cell? ⟨g4, o4 + j * 4 + 2, none⟩ = some (.int .i64 (cs.getD j 0)) ∧ wr.cell? ⟨g4, o4 + j * 4 + 3, none⟩ = some (.int .i64 (D.getD j 0)) := by
          intro j y hy
          have hjl : j < N := by have := (List.getElem?_eq_some_iff.1 hy).1; have := HN.out; omega
          have hdj : D[j]? = some (D.getD j 0) := by
            have : j < D.length := by rw [HDL.out]; exact hjl
            simp [List.getD, this]
          obtain ⟨_, _, r2, r3⟩ := hcl j (y, D.getD j 0) (by rw [List.getElem?_zip_eq_some]; exact ⟨hy, hdj⟩)
          rw [HLX.out j y hy]
          exact ⟨hgr.cell r2 hne4, hgr.cell r3 hne4⟩
        have hcell : ∀ j, j < N → wr.cell? ⟨g4, o4 + j * 4 + 2, none⟩ = some (.int .i64 (cs.getD j 0)) ∧ wr.cell? ⟨g4, o4 + j * 4 + 3, none⟩ = some (.int .i64 (D.getD j 0)) := fun j hj => hall j _ (List.getElem?_eq_getElem (by have := HN.out; omega))
        have HCELL := Lib.hid hcell
        have HFRK := Lib.hid hfr
        have HRW := Lib.hid hrw
        have HGR := Lib.hid hgr
        have HSTK := Lib.hid hst
        have HBK := Lib.hid hbk
        have k1 : (k : Int) < (N : Int) := by omega
        obtain ⟨x0, x1, x2⟩ := x
        dsimp only at c0 c1 c2 c3 hcx hok hic
        have HOKK := Lib.hid hok
        have HIX := Lib.hid hic
        have HCX := Lib.hid hcx
        have hr := getD_range HCS.out hkc
        rw [hcx] at hr
        obtain ⟨dk, hdk'⟩ : ∃ d, D.getD k 0 = d := ⟨_, rfl⟩
        obtain ⟨fk, hfk'⟩ : ∃ d, F.getD k 0 = d := ⟨_, rfl⟩
        obtain ⟨tt, htt⟩ : ∃ t, to4 (x0, x1, x2) = t := ⟨_, rfl⟩
        rw [hdk'] at c3
        rw [htt] at c1
        have HDK := Lib.hid hdk'
        have HFK := Lib.hid hfk'
        have HTT := Lib.hid htt
        clear hall hcell hfr hrw hgr hst hbk hcl q0 q1 q2 q3 hzd hx hx' hxm hdk hfk hok hic hcx hdk' hfk' htt
        go_upto_block 2 with fail
        go_cut [14] (fun nv wx => nv = .int .i64 fk ∧ wx = wr.alloc (.cells #[.int .i64 x0, .int .i64 tt, .int .i64 x2, .int .i64 dk] 78))
        case first =>
          have hst := HSTK.out
          have hlast := hst.2.2.2
          by_cases h12 : x2 = 1 ∨ x2 = 2
          · have h12' := h12
            rw [← HCX.out] at h12'
            obtain ⟨s1, _, s3, _⟩ := hst.strong hkc h12'
            rw [HCX.out, HDK.out] at s1
            rw [HCX.out, HFK.out] at s3
            subst s1
            have HS3 := Lib.hid s3
            clear hst s3 h12'
            rcases h12 with rfl | rfl
            · go_wp2_with fail
              refine (HST.out 1 (.inl rfl) _).mono ?_
              rintro ex wq ⟨rfl, rfl⟩
              go_wp2_with fail
              go_meet
              exact ⟨by rw [HS3.out], rfl⟩
            · go_wp2_with fail
              refine (HST.out 2 (.inr rfl) _).mono ?_
              rintro ex wq ⟨rfl, rfl⟩
              go_wp2_with fail
              go_meet
              exact ⟨by rw [HS3.out], rfl⟩
          · by_cases h3 : x2 = 3
            · have h3' := h3
              rw [← HCX.out] at h3'
              obtain ⟨s1, s2, s3, _⟩ := hst.num hkc h3'
              rw [HDK.out] at s1
              rw [s2, HFK.out] at s3
              subst h3
              subst s1
              rcases hlast with rfl | rfl
              · rw [if_neg (by decide)] at s3
                have HS3 := Lib.hid s3
                clear hst s3 s2 h3' h12
                go_wp2_with fail
                refine (HST.out 1 (.inl rfl) _).mono ?_
                rintro ex wq ⟨rfl, rfl⟩
                go_wp2_with fail
                go_meet
                exact ⟨by rw [HS3.out], rfl⟩
              · rw [if_pos rfl] at s3
                have HS3 := Lib.hid s3
                clear hst s3 s2 h3' h12
                go_wp2_with fail
                go_meet
                refine ⟨?_, rfl⟩
                have g1 := HS3.out
                have g2 := HE2.out
                congr 1 <;> omega
            · obtain rfl : x2 = 0 := by omega
              have hcz := HCX.out
              have hah := hst.ahead hkc hcz
              rw [HFK.out] at hah
              have HAH := Lib.hid hah
              have HDZ := Lib.hid HDZ0.out
              have hpast : ∀ q, (wr.alloc (.cells #[.int .i64 x0, .int .i64 tt, .int .i64 0, .int .i64 dk] 78)).cell? ⟨g4, q, none⟩ = wr.cell? ⟨g4, q, none⟩ := fun q => ((Below.refl wr.heap.size wr).alloc (Nat.le_refl _) _).cell (p := ⟨g4, q, none⟩) (Nat.lt_of_lt_of_le hg4 HGR.out.size)
              have HPAST := Lib.hid hpast
              have HCZ := Lib.hid hcz
              clear hst hah hcz hpast h12 h3
              go_wp2_with fail
              go_loopw [15, 17] (fun bv kv wx => ∃ (j bq : Int), -1 ≤ j ∧ j ≤ k ∧ kv = .int .i64 j ∧ bv = .int .i64 bq ∧ bq = own e ∧ (∀ q : Nat, j < q → q ≤ k → cs.getD q 0 = 0) ∧ wx = wr.alloc (.cells #[.int .i64 x0, .int .i64 tt, .int .i64 0, .int .i64 dk] 78)) (fun _ kv _ => (intOf kv + 1).toNat)
              case atStart => exact ⟨k, _, by omega, Int.le_refl _, rfl, rfl, HO.out.symm, fun q h1 h2 => by omega, rfl⟩
              case round =>
                obtain ⟨j, bq, hj0, hjk, rfl, rfl, hbq, hz, rfl⟩ := hrel
                by_cases hj : 0 ≤ j
                · obtain ⟨p, rfl⟩ : ∃ p : Nat, j = p := ⟨j.toNat, by omega⟩
                  obtain ⟨t2, t3⟩ := HCELL.out p (by omega)
                  have v2 := (HPAST.out (o4 + p * 4 + 2)).trans t2
                  have v3 := (HPAST.out (o4 + p * 4 + 3)).trans t3
                  have p1 : (p : Int) < (N : Int) := by omega
                  by_cases hcp : cs.getD p 0 = 0
                  · rw [hcp] at v2
                    have HBQ := Lib.hid hbq
                    have hz2 : ∀ q : Nat, (p : Int) - 1 < q → q ≤ k → cs.getD q 0 = 0 := by
                      intro q h1 h2
                      by_cases hq : q = p
                      · rw [hq]; exact hcp
                      · exact hz q (by omega) h2
                    have HZ3 := Lib.hid hz2
                    clear t2 t3 hz hz2 hcp hbq
                    go_wp2
                    go_roundw
                    case rel => exact ⟨(p : Int) - 1, bq, by omega, by omega, by go_num, rfl, HBQ.out, HZ3.out, trivial⟩
                    case measure => simp [intOf] <;> omega
                  · have hpk : p < k := by
                      by_cases h : p = k
                      · rw [h] at hcp; exact absurd HCZ.out hcp
                      · omega
                    have hfound := HBK.out.found hpk hcp (fun q h1 h2 => hz q (by omega) (by omega))
                    rw [hfound] at v3
                    obtain ⟨cp, hcp'⟩ : ∃ c, cs.getD p 0 = c := ⟨_, rfl⟩
                    rw [hcp'] at v2 hcp
                    have hcb : (cp == 0) = false := by simp [hcp]
                    clear t2 t3 hz hcp hcp' hbq hfound
                    go_wp2_with fail
                    go_loopw [16, 18] (fun av kv wx => ∃ (j : Nat) (aq : Int), k ≤ j ∧ j < N ∧ kv = .int .i64 j ∧ av = .int .i64 aq ∧ aq = fnz (own e) (D.drop (j + 1)) ∧ wx = wr.alloc (.cells #[.int .i64 x0, .int .i64 tt, .int .i64 0, .int .i64 dk] 78)) (fun _ kv _ => (intOf kv).toNat)
                    case atStart =>
                      refine ⟨N - 1, _, by omega, by omega, by congr 1 <;> omega, rfl, ?_, rfl⟩
                      rw [List.drop_eq_nil_of_le (by rw [HDL.out]; omega)]
                      exact HO.out.symm
                    case round =>
                      obtain ⟨j, aq, hkj, hjN, rfl, rfl, haq, rfl⟩ := hrel
                      by_cases hjk : k < j
                      · obtain ⟨t2, t3⟩ := HCELL.out j hjN
                        have u2 := (HPAST.out (o4 + j * 4 + 2)).trans t2
                        have u3 := (HPAST.out (o4 + j * 4 + 3)).trans t3
                        have hdz := HDZ.out j (by rw [HCL.out]; exact hjN)
                        have hfd := fnz_drop (o := own (e : Int)) (D := D) (j := j) (by rw [HDL.out]; exact hjN)
                        obtain ⟨j', rfl⟩ : ∃ j', j = j' + 1 := ⟨j - 1, by omega⟩
                        have j0 : (0 : Int) ≤ (j' : Int) := by omega
                        have j1 : (k : Int) < (j' : Int) + 1 := by omega
                        have j2 : (j' : Int) + 1 < (N : Int) := by omega
                        by_cases hcj : cs.getD (j' + 1) 0 = 0
                        · rw [hcj] at u2
                          rw [if_pos (hdz.2 hcj), ← haq] at hfd
                          have HFD := Lib.hid hfd
                          clear t2 t3 hdz hfd haq hcj
                          go_wp2
                          go_roundw
                          case rel => exact ⟨j', aq, by omega, by omega, by go_num, rfl, HFD.out.symm, trivial⟩
                          case measure => simp [intOf] <;> omega
                        · rw [if_neg (fun h => hcj (hdz.1 h))] at hfd
                          have HFD := Lib.hid hfd
                          obtain ⟨cj, hcj'⟩ : ∃ c, cs.getD (j' + 1) 0 = c := ⟨_, rfl⟩
                          rw [hcj'] at u2 hcj
                          have hcb : (cj == 0) = false := by simp [hcj]
                          clear t2 t3 hdz hfd haq hcj hcj'
                          go_wp2
                          go_roundw
                          case rel => exact ⟨j', _, by omega, by omega, by go_num, rfl, HFD.out.symm, trivial⟩
                          case measure => simp [intOf] <;> omega
                      · obtain rfl : j = k := by omega
                        have hfin := HAH.out
                        rw [← haq] at hfin
                        by_cases hla : last = aq
                        · rw [if_pos hla] at hfin
                          have HFIN := Lib.hid hfin
                          subst hla
                          clear hfin haq
                          go_wp2_with fail
                          refine (HST.out last hlast _).mono ?_
                          rintro ex wq ⟨rfl, rfl⟩
                          go_wp2_with fail
                          go_meet
                          exact ⟨by rw [HFIN.out], rfl⟩
                        · rw [if_neg hla] at hfin
                          have HFIN := Lib.hid hfin
                          have hlb : (last == aq) = false := by simp [hla]
                          clear hfin haq hla
                          go_wp2_with fail
                          go_meet
                          exact ⟨by rw [HFIN.out], rfl⟩
                · have hbl : last = bq := (HBK.out.all (fun q h => hz q (by omega) (by omega))).trans hbq.symm
                  subst hbl
                  obtain rfl : j = -1 := by omega
                  clear hz hbq
                  go_wp2_with fail
                  go_loopw [16, 18] (fun av kv wx => ∃ (j : Nat) (aq : Int), k ≤ j ∧ j < N ∧ kv = .int .i64 j ∧ av = .int .i64 aq ∧ aq = fnz (own e) (D.drop (j + 1)) ∧ wx = wr.alloc (.cells #[.int .i64 x0, .int .i64 tt, .int .i64 0, .int .i64 dk] 78)) (fun _ kv _ => (intOf kv).toNat)
                  case atStart =>
                    refine ⟨N - 1, _, by omega, by omega, by congr 1 <;> omega, rfl, ?_, rfl⟩
                    rw [List.drop_eq_nil_of_le (by rw [HDL.out]; omega)]
                    exact HO.out.symm
                  case round =>
                    obtain ⟨j, aq, hkj, hjN, rfl, rfl, haq, rfl⟩ := hrel
                    by_cases hjk : k < j
                    · obtain ⟨t2, t3⟩ := HCELL.out j hjN
                      have u2 := (HPAST.out (o4 + j * 4 + 2)).trans t2
                      have u3 := (HPAST.out (o4 + j * 4 + 3)).trans t3
                      have hdz := HDZ.out j (by rw [HCL.out]; exact hjN)
                      have hfd := fnz_drop (o := own (e : Int)) (D := D) (j := j) (by rw [HDL.out]; exact hjN)
                      obtain ⟨j', rfl⟩ : ∃ j', j = j' + 1 := ⟨j - 1, by omega⟩
                      have j0 : (0 : Int) ≤ (j' : Int) := by omega
                      have j1 : (k : Int) < (j' : Int) + 1 := by omega
                      have j2 : (j' : Int) + 1 < (N : Int) := by omega
                      by_cases hcj : cs.getD (j' + 1) 0 = 0
                      · rw [hcj] at u2
                        rw [if_pos (hdz.2 hcj), ← haq] at hfd
                        have HFD := Lib.hid hfd
                        clear t2 t3 hdz hfd haq hcj
                        go_wp2
                        go_roundw
                        case rel => exact ⟨j', aq, by omega, by omega, by go_num, rfl, HFD.out.symm, trivial⟩
                        case measure => simp [intOf] <;> omega
                      · rw [if_neg (fun h => hcj (hdz.1 h))] at hfd
                        have HFD := Lib.hid hfd
                        obtain ⟨cj, hcj'⟩ : ∃ c, cs.getD (j' + 1) 0 = c := ⟨_, rfl⟩
                        rw [hcj'] at u2 hcj
                        have hcb : (cj == 0) = false := by simp [hcj]
                        clear t2 t3 hdz hfd haq hcj hcj'
                        go_wp2
                        go_roundw
                        case rel => exact ⟨j', _, by omega, by omega, by go_num, rfl, HFD.out.symm, trivial⟩
                        case measure => simp [intOf] <;> omega
                    · obtain rfl : j = k := by omega
                      have hfin := HAH.out
                      rw [← haq] at hfin
                      by_cases hla : last = aq
                      · rw [if_pos hla] at hfin
                        have HFIN := Lib.hid hfin
                        subst hla
                        clear hfin haq
                        go_wp2_with fail
                        refine (HST.out last hlast _).mono ?_
                        rintro ex wq ⟨rfl, rfl⟩
                        go_wp2_with fail
                        go_meet
                        exact ⟨by rw [HFIN.out], rfl⟩
                      · rw [if_neg hla] at hfin
                        have HFIN := Lib.hid hfin
                        have hlb : (last == aq) = false := by simp [hla]
                        clear hfin haq hla
                        go_wp2_with fail
                        go_meet
                        exact ⟨by rw [HFIN.out], rfl⟩
        case rest =>
          obtain ⟨rfl, rfl⟩ := hcut
          have hok := HOKK.out
          have hnew : ∃ last', St e cs D P F (k + 1) last' ∧ Back cs D (own e) (k + 1) last' := by
            by_cases h12 : cs.getD k 0 = 1 ∨ cs.getD k 0 = 2
            · obtain ⟨s1, _, _, s4⟩ := HSTK.out.strong hkc h12
              exact ⟨_, s4, Back.some (by omega) s1⟩
            · by_cases h3 : cs.getD k 0 = 3
              · obtain ⟨s1, _, _, s4⟩ := HSTK.out.num hkc h3
                exact ⟨_, s4, Back.some (by omega) s1⟩
              · have h0 : cs.getD k 0 = 0 := by rw [HCX.out] at h12 h3 ⊢; omega
                exact ⟨_, (HSTK.out.neut hkc h0).2.2.2, HBK.out.none h0⟩
          have HNEW := Lib.hid hnew
          have hX := HRW.out.alloc (.cells #[.int .i64 x0, .int .i64 tt, .int .i64 x2, .int .i64 dk] 78)
          have hgw : g < wr.heap.size := HRW.out.lt
          have f0 := hX.cell (i := x0) (by obtain ⟨_, h2, _⟩ := hok; dsimp only at h2; omega)
          have f1 := hX.frozen x0
          have hW1 := hX.set x0 fk
          have hXb : (wr.alloc (.cells #[.int .i64 x0, .int .i64 tt, .int .i64 x2, .int .i64 dk] 78)).heap[wr.heap.size]? = some (.cells #[.int .i64 x0, .int .i64 tt, .int .i64 x2, .int .i64 dk] 78 (0, 0)) := heap_alloc_new wr _
          have hW1b : ((wr.alloc (.cells #[.int .i64 x0, .int .i64 tt, .int .i64 x2, .int .i64 dk] 78)).setCell ⟨g, x0, none⟩ (.int .i64 fk)).heap[wr.heap.size]? = some (.cells #[.int .i64 x0, .int .i64 tt, .int .i64 x2, .int .i64 dk] 78 (0, 0)) := by
            rw [Below.heap_setCell _ _ _ _ (by show wr.heap.size ≠ g; omega)]
            exact hXb
          have hgW1 := grown_set (grown_alloc HGR.out (.cells #[.int .i64 x0, .int .i64 tt, .int .i64 x2, .int .i64 dk] 78)) x0 (.int .i64 fk)
          have m0 : ((wr.alloc (.cells #[.int .i64 x0, .int .i64 tt, .int .i64 x2, .int .i64 dk] 78)).setCell ⟨g, x0, none⟩ (.int .i64 fk)).cell? ⟨wr.heap.size, 0, none⟩ = some (.int .i64 x0) := by rw [Lib.cell_of_heap hW1b]; rfl
          have m1 : ((wr.alloc (.cells #[.int .i64 x0, .int .i64 tt, .int .i64 x2, .int .i64 dk] 78)).setCell ⟨g, x0, none⟩ (.int .i64 fk)).cell? ⟨wr.heap.size, 1, none⟩ = some (.int .i64 tt) := by rw [Lib.cell_of_heap hW1b]; rfl
          have HW1 := Lib.hid hW1
          have HGW1 := Lib.hid hgW1
          have HW1b := Lib.hid hW1b
          have hLs : (L'.set x0 fk).length = n := by rw [List.length_set]; exact hLl
          obtain ⟨ha0, hb0, _, _, hkind⟩ := hok
          dsimp only at ha0 hb0 hkind
          have HKIND := Lib.hid hkind
          clear hgw hkind
          by_cases hlf : x1 = x0
          · have htt : tt = -1 := by rw [← HTT.out]; unfold to4; rw [if_pos hlf]
            subst htt
            have hfr := HFRK.out
            have hfs : fillStep xs (b - a) e L' ((x0, x1, x2), F.getD k 0) = L'.set x0 fk := by
              unfold fillStep
              rw [if_pos hlf, HFK.out]
            rw [hfs] at hfr
            have HFR2 := Lib.hid hfr
            clear hX hW1 hXb hW1b hgW1 hnew hfr hfs
            go_wp2
            go_roundw
            case rel =>
              obtain ⟨last', n1, n2⟩ := HNEW.out
              exact ⟨k + 1, last', L'.set x0 fk, by omega, by go_num, n1, n2, hLs, HFR2.out, HW1.out, HGW1.out⟩
            case measure => simp [intOf] <;> omega
          · rcases HKIND.out with ⟨h6, _⟩ | ⟨h6, h7, h8, h9⟩
            · exact absurd h6 hlf
            · have htt : tt = (x1 : Int) := by rw [← HTT.out]; unfold to4; rw [if_neg hlf]
              subst htt
              have hsh := HSH.out x0 ha0 hb0 h6
              have hnx := Hn.out
              have h9n : x1 ≤ n := by omega
              have h1b : x1 ≤ b := by omega
              have hfr := HFRK.out
              have hfs : fillStep xs (b - a) e L' ((x0, x1, x2), F.getD k 0) = fillF xs (b - a) (x0 + 1) x1 (inner xs x0 e) ((L'.set x0 fk).set x1 fk) := by
                unfold fillStep
                rw [if_neg hlf, HFK.out]
              rw [hfs] at hfr
              have hfu := fun L2 => HFL.out x0 x1 (inner xs x0 e) L2 ha0 hb0 h1b (by rw [h7]; exact shut_inside (by omega) h6)
              rw [← hfu] at hfr
              have hiv : 0 ≤ inner xs x0 e ∧ inner xs x0 e ≤ e + 2 := by unfold inner; split <;> omega
              obtain ⟨e', he'⟩ : ∃ e' : Nat, inner xs x0 e = e' := ⟨(inner xs x0 e).toNat, by omega⟩
              rw [he'] at hfr
              have HFR2 := Lib.hid hfr
              have hbW : ∀ W : World, w1.grownBy W (some g) → Below B w W := fun W h => (HB1.out.mono (by omega)).trans (grown_below h hBg (by have := HB1.out.size; omega))
              have x00 : (0 : Int) ≤ (x0 : Int) := by omega
              have x10 : (0 : Int) ≤ (x1 : Int) := by omega
              have hmin : min (x1 : Int) (b : Int) = (x1 : Int) := by omega
              have hcast : ((x0 + 1 : Nat) : Int) = (x0 : Int) + 1 := by omega
              have hinn : ∀ W, w1.grownBy W (some g) → Calls Try.prog 56 #[.slice ao n ca, .int .i64 x0, .int .i64 e] W fun x w' => x = .returned (.int .i64 e') ∧ W = w' := by
                intro W hW
                have := HIN.out W x0 (HVB.out W (hbW W hW)) (by omega) h6
                rw [he'] at this
                exact this
              have hfil : ∀ W L2, w1.grownBy W (some g) → RowW g W L2 → L2.length = n → Calls Try.prog 40 #[.slice (some ⟨g, 0, none⟩) n n, .slice ao n ca, .int .i64 ((x0 : Int) + 1), .int .i64 x1, .int .i64 e'] W (fun x w' => x = .returned (.tuple #[]) ∧ RowW g w' (fillF xs (x1 - (x0 + 1) + 1) (x0 + 1) x1 e' L2) ∧ W.grownBy w' (some g)) := by
                intro W L2 hW hR hl
                have := HIH.out x0 x1 e' L2 W ha0 hb0 (by omega) h1b h6 h7 (by omega) hl (HVB.out W (hbW W hW)) hR
                rw [hcast] at this
                exact this
              have HINN := Lib.hid hinn
              have HFIL := Lib.hid hfil
              clear hX hW1 hXb hW1b hgW1 hnew hfr hfs hfu hinn hfil hbW hiv he' hsh hcast hnx h7 h9 h6
              by_cases hxn : x1 < n
              · have x1n : (x1 : Int) < (n : Int) := by omega
                have f2 := HW1.out.cell (i := x1) (by omega)
                have f3 := HW1.out.frozen x1
                have hW2 := HW1.out.set x1 fk
                have hgW2 := grown_set HGW1.out x1 (.int .i64 fk)
                have hW2b : (((wr.alloc (.cells #[.int .i64 x0, .int .i64 x1, .int .i64 x2, .int .i64 dk] 78)).setCell ⟨g, x0, none⟩ (.int .i64 fk)).setCell ⟨g, x1, none⟩ (.int .i64 fk)).heap[wr.heap.size]? = some (.cells #[.int .i64 x0, .int .i64 x1, .int .i64 x2, .int .i64 dk] 78 (0, 0)) := by
                  rw [Below.heap_setCell _ _ _ _ (by show wr.heap.size ≠ g; have := HRW.out.lt; omega)]
                  exact HW1b.out
                have hls2 : ((L'.set x0 fk).set x1 fk).length = n := by rw [List.length_set]; exact hLs
                have HW2 := Lib.hid hW2
                have HGW2 := Lib.hid hgW2
                have m2 : (((wr.alloc (.cells #[.int .i64 x0, .int .i64 x1, .int .i64 x2, .int .i64 dk] 78)).setCell ⟨g, x0, none⟩ (.int .i64 fk)).setCell ⟨g, x1, none⟩ (.int .i64 fk)).cell? ⟨wr.heap.size, 0, none⟩ = some (.int .i64 x0) := by rw [Lib.cell_of_heap hW2b]; rfl
                have m3 : (((wr.alloc (.cells #[.int .i64 x0, .int .i64 x1, .int .i64 x2, .int .i64 dk] 78)).setCell ⟨g, x0, none⟩ (.int .i64 fk)).setCell ⟨g, x1, none⟩ (.int .i64 fk)).cell? ⟨wr.heap.size, 1, none⟩ = some (.int .i64 x1) := by rw [Lib.cell_of_heap hW2b]; rfl
                clear hW2 hgW2 hW2b
                have HFIN := HFR2
                go_wp2_with fail
                refine wp_region_still_tail 14 (by kernel_rfl) (by kernel_rfl) ?_
                obtain ⟨WD, hWD⟩ : ∃ WD : World, WD = { (((wr.alloc (.cells #[.int .i64 x0, .int .i64 x1, .int .i64 x2, .int .i64 dk] 78)).setCell ⟨g, x0, none⟩ (.int .i64 fk)).setCell ⟨g, x1, none⟩ (.int .i64 fk)) with drawn := (((wr.alloc (.cells #[.int .i64 x0, .int .i64 x1, .int .i64 x2, .int .i64 dk] 78)).setCell ⟨g, x0, none⟩ (.int .i64 fk)).setCell ⟨g, x1, none⟩ (.int .i64 fk)).drawn + 1 } := ⟨_, rfl⟩
                rw [← hWD]
                have d0 : WD.cell? ⟨wr.heap.size, 0, none⟩ = some (.int .i64 x0) := by rw [hWD]; exact m2
                have d1 : WD.cell? ⟨wr.heap.size, 1, none⟩ = some (.int .i64 x1) := by rw [hWD]; exact m3
                have dr : RowW g WD ((L'.set x0 fk).set x1 fk) := by rw [hWD]; exact HW2.out
                have dg : w1.grownBy WD (some g) := by rw [hWD]; exact grown_dr HGW2.out
                have HDR := Lib.hid dr
                have HDG := Lib.hid dg
                clear dr dg hWD
                simp only [List.take_succ_cons, List.take_zero, List.drop_succ_cons, List.drop_zero]
                repeat still_step
                still_call ((HINN.out _ HDG.out).mono fun _ _ h => ⟨h.1, h.2.symm⟩)
                repeat still_step
                refine wpStill_nil ?_
                have hfc := HFIL.out _ _ HDG.out HDR.out hls2
                have HFC := Lib.hid hfc
                clear hfc
                go_wp2_with (go_at_call 40; refine HFC.out.mono ?_; rintro ex w7 ⟨rfl, hr7, hg7⟩)
                go_roundw
                case rel =>
                  obtain ⟨last', n1, n2⟩ := HNEW.out
                  exact ⟨k + 1, last', _, by omega, by go_num, n1, n2, by rw [fillF_len]; exact hls2, HFIN.out, hr7, HDG.out.trans hg7⟩
                case measure => simp [intOf] <;> omega
              · skip
                have x1n : (n : Int) ≤ (x1 : Int) := by omega
                have hnop : (L'.set x0 fk).set x1 fk = L'.set x0 fk := List.set_eq_of_length_le (by omega)
                have hfin := HFR2.out
                rw [hnop] at hfin
                have HFIN := Lib.hid hfin
                clear hfin hnop
                go_wp2_with fail
                refine wp_region_still_tail 14 (by kernel_rfl) (by kernel_rfl) ?_
                obtain ⟨WD, hWD⟩ : ∃ WD : World, WD = { ((wr.alloc (.cells #[.int .i64 x0, .int .i64 x1, .int .i64 x2, .int .i64 dk] 78)).setCell ⟨g, x0, none⟩ (.int .i64 fk)) with drawn := ((wr.alloc (.cells #[.int .i64 x0, .int .i64 x1, .int .i64 x2, .int .i64 dk] 78)).setCell ⟨g, x0, none⟩ (.int .i64 fk)).drawn + 1 } := ⟨_, rfl⟩
                rw [← hWD]
                have d0 : WD.cell? ⟨wr.heap.size, 0, none⟩ = some (.int .i64 x0) := by rw [hWD]; exact m0
                have d1 : WD.cell? ⟨wr.heap.size, 1, none⟩ = some (.int .i64 x1) := by rw [hWD]; exact m1
                have dr : RowW g WD (L'.set x0 fk) := by rw [hWD]; exact HW1.out
                have dg : w1.grownBy WD (some g) := by rw [hWD]; exact grown_dr HGW1.out
                have HDR := Lib.hid dr
                have HDG := Lib.hid dg
                clear dr dg hWD
                simp only [List.take_succ_cons, List.take_zero, List.drop_succ_cons, List.drop_zero]
                repeat still_step
                still_call ((HINN.out _ HDG.out).mono fun _ _ h => ⟨h.1, h.2.symm⟩)
                repeat still_step
                refine wpStill_nil ?_
                have hfc := HFIL.out _ _ HDG.out HDR.out hLs
                have HFC := Lib.hid hfc
                clear hfc
                go_wp2_with (go_at_call 40; refine HFC.out.mono ?_; rintro ex w7 ⟨rfl, hr7, hg7⟩)
                go_roundw
                case rel =>
                  obtain ⟨last', n1, n2⟩ := HNEW.out
                  exact ⟨k + 1, last', _, by omega, by go_num, n1, n2, by rw [fillF_len]; exact hLs, HFIN.out, hr7, HDG.out.trans hg7⟩
                case measure => simp [intOf] <;> omega
      · have hkn : k = N := by omega
        have hd : (IT.zip F).drop k = [] := List.drop_eq_nil_of_le (by rw [HZ2.out]; omega)
        rw [hd] at hfr
        have hfr : FR = L' := hfr
        have HW := Lib.hid hrw
        have HG := Lib.hid hgr
        have HF := Lib.hid hfr
        have k1 : (N : Int) ≤ (k : Int) := by omega
        clear hd hfr hrw hgr hst hbk
        go_wp2
        go_end0
        exact ⟨rfl, by rw [HF.out]; exact HW.out, (below_grown HB1.out (Nat.le_refl _)).trans HG.out⟩
end Go.Proofs.Ytgefbagojghmeaa
