/-
  decimal: digits, split, Valid, value.
-/
import Derived.Test.YtbkcmgjmhglghaaGreatDoorWj0
import Derived.Test.YtbkcmgjmhglghaaGreatDoorWg1
import Derived.Test.YtbkcmgjmhglghaaGreatDoorWh8
namespace Go.Proofs.YtbkcmgjmhglghaaGreatDoor
open Go.RowKit

set_option maxRecDepth 100000 in
theorem digits_any (u : List Nat) (hu : Digs u) (hl : u.length ≤ 100) (w : World) : Calls Tryz.prog 89 #[.string (numS u)] w fun e w' => e = .returned (.bool true) ∧ Below w.heap.size w w' := by
  have htr := Any.strings_Trim_laid Tryz.lays160 (by kernel_rfl) (numS u) ⟨#[48, 49, 50, 51, 52, 53, 54, 55, 56, 57]⟩ w (by rw [numS_size]; omega) (by decide) (ascii_of_all (by decide))
  have h2 : Lib.trimS (numS u).data.toList (⟨#[48, 49, 50, 51, 52, 53, 54, 55, 56, 57]⟩ : ByteArray).data.toList = [] := by
    rw [numS_list]
    exact trim_digits hu
  rw [h2] at htr
  have he0 : (⟨#[]⟩ : ByteArray).toList = [] := by kernel_rfl
  obtain ⟨s, hs⟩ : ∃ s, s = numS u := ⟨_, rfl⟩
  rw [← hs] at htr ⊢
  have HTR := Lib.hid htr
  clear htr h2 hs
  go_enter Tryz.func89, Tryz.ntmps89
  go_wp2_with (go_at_call 100; refine (HTR.out).mono ?_; rintro e w5 ⟨rfl, hb5⟩)
  go_ret
  exact ⟨rfl, hb5⟩
set_option maxRecDepth 100000 in
theorem value_any (u : List Nat) (hu : Digs u) (hl : u.length ≤ 17) (w : World) : Calls Tryz.prog 92 #[.string (numS u)] w fun e w' => e = .returned (.int .i64 (val u : Nat)) ∧ Below w.heap.size w w' := by
  have hsz : (⟨#[48]⟩ ++ numS u : ByteArray).size = u.length + 1 := by
    rw [ByteArray.size_append, numS_size]
    show 1 + u.length = _
    omega
  have ha : Lib.atoi (⟨#[48]⟩ ++ numS u : ByteArray).data.toList = some ((val u : Nat) : Int) := by
    have e : (⟨#[48]⟩ ++ numS u : ByteArray).data.toList = 48 :: u.map symB := by
      rw [ByteArray.data_append, Array.toList_append, numS_list]
      rfl
    rw [e]
    exact atoi_dig u hu
  have hat := fun W => Tryz.strconv_Atoi (⟨#[48]⟩ ++ numS u) _ (by omega) ha W
  have h48 : (⟨#[48]⟩ : ByteArray).size = 1 := rfl
  have had := fun W => run_string_add_sum (P := Tryz.prog) W ⟨#[48]⟩ (numS u) (by rw [numS_size, h48]; omega)
  obtain ⟨V, hV⟩ : ∃ V, V = val u := ⟨_, rfl⟩
  rw [← hV] at hat ⊢
  obtain ⟨S, hS⟩ : ∃ S : ByteArray, S = ⟨#[48]⟩ ++ numS u := ⟨_, rfl⟩
  rw [← hS] at hat had
  obtain ⟨s, hs⟩ : ∃ s, s = numS u := ⟨_, rfl⟩
  rw [← hs] at had ⊢
  have HAT := Lib.hid hat
  clear hat hsz ha hV hS hs
  go_enter Tryz.func92, Tryz.ntmps92
  go_wp2_with (go_at_call 106; refine (HAT.out _).mono ?_; rintro e w5 ⟨rfl, t, rfl⟩)
  go_ret
  exact ⟨rfl, rfl, rfl, rfl, by rw [Lib.bytesWorld_size]; omega, fun k hk => Lib.bytesWorld_at_old _ _ _ _ hk⟩
theorem Tryz.infoNum : (Tryz.prog.info? 113).map (·.size) = some 3 := by kernel_rfl
set_option maxRecDepth 100000 in
set_option maxHeartbeats 3200000 in
theorem split_any (x : Num) (hx : x.OK) (w : World) (hm : ∃ m, w.cell? ⟨0, 0, none⟩ = some (.int .i64 m)) :
    Calls Tryz.prog 67 #[.string (numS (syms x))] w fun e w' => e = .returned (.tuple #[.agg #[.bool false, .string (numS x.wh), .string (numS x.fr)], .bool true]) ∧ Below w.heap.size w w' := by
  obtain ⟨m, hm⟩ := hm
  obtain ⟨hd1, hd2, hw1, hw15, hw0, hf6⟩ := hx
  have hx : x.OK := ⟨hd1, hd2, hw1, hw15, hw0, hf6⟩
  have hsl : (syms x).length ≤ 30 := by
    unfold syms
    split
    · omega
    · simp
      omega
  have hcp := fun W => Tryz.strings_CutPrefix (numS (syms x)) ⟨#[45]⟩ W
  have h45 : (⟨#[45]⟩ : ByteArray).data.toList = [45] := rfl
  rw [h45, (not_minus hx).1, (not_minus hx).2] at hcp
  have hcut := fun W (hW : Below w.heap.size w W) => Tryz.strings_Cut (numS (syms x)) ⟨#[46]⟩ m W (by rw [numS_size]; omega) ((hW.cell (p := ⟨0, 0, none⟩) (World.block_lt_of_cell? w _ hm)).trans hm)
  have h46 : (⟨#[46]⟩ : ByteArray).data.toList = [46] := rfl
  rw [h46, cut_num hx] at hcut
  have ewh : (⟨(x.wh.map symB).toArray⟩ : ByteArray) = numS x.wh := rfl
  have efr : (⟨(x.fr.map symB).toArray⟩ : ByteArray) = numS x.fr := rfl
  have eal : (⟨((numS (syms x)).data.toList).toArray⟩ : ByteArray) = numS (syms x) := by simp
  simp only [ewh, efr] at hcut
  rw [eal] at hcp
  have hdw := fun W => digits_any x.wh hd1 (by omega) W
  have hdf := fun W => digits_any x.fr hd2 (by omega) W
  have sw : (numS x.wh).size = x.wh.length := numS_size _
  have sf : (numS x.fr).size = x.fr.length := numS_size _
  have hby : ∀ S, S = numS x.wh → ∀ (h : 1 < S.size), (S[0]'(by omega)).toNat ≠ 48 := by
    rintro S rfl h
    have h2 : 1 < x.wh.length := by omega
    rw [numS_get x.wh (by omega) (by omega), symB_nat (by have := hd1 (x.wh[0]'(by omega)) (List.getElem_mem _); omega)]
    have h3 := hw0 h2
    rw [List.head?_eq_getElem?, List.getElem?_eq_getElem (by omega)] at h3
    have h4 := hd1 (x.wh[0]'(by omega)) (List.getElem_mem _)
    unfold symN
    rw [if_neg (by omega)]
    intro h5
    apply h3
    congr 1
    omega
  obtain ⟨P, hP⟩ : ∃ P, P = !decide (x.fr = []) := ⟨_, rfl⟩
  rw [← hP] at hcut
  have hPf : P = true → 0 < (numS x.fr).size := by
    intro h
    rw [h] at hP
    simp at hP
    rw [sf]
    exact List.length_pos_iff.2 hP
  obtain ⟨W1, hW1⟩ : ∃ s, s = numS x.wh := ⟨_, rfl⟩
  obtain ⟨F1, hF1⟩ : ∃ s, s = numS x.fr := ⟨_, rfl⟩
  obtain ⟨A1, hA1⟩ : ∃ s, s = numS (syms x) := ⟨_, rfl⟩
  rw [← hW1, ← hF1, ← hA1] at hcut
  rw [← hW1] at hdw sw
  have hby := hby W1 hW1
  rw [← hF1] at hdf sf hPf
  rw [← hA1] at hcp ⊢
  rw [← hW1, ← hF1]
  have b1 : (1 : Int) ≤ (W1.size : Int) := by omega
  have b2 : (W1.size : Int) ≤ 15 := by omega
  have b3 : (F1.size : Int) ≤ 6 := by omega
  have HCP := Lib.hid hcp
  have HCUT := Lib.hid hcut
  have HDW := Lib.hid hdw
  have HDF := Lib.hid hdf
  have HBY := Lib.hid hby
  have HPF := Lib.hid hPf
  clear hcp hcut hdw hdf hby hPf hd1 hd2 hw1 hw15 hw0 hf6 hx hsl h45 h46 ewh efr eal hP hW1 hF1 hA1 sw sf hm
  go_enter Tryz.func67, Tryz.ntmps67
  go_upto_region 1 with fail
  obtain ⟨w1, hw1⟩ : ∃ w1, w1 = w.alloc (.cells #[.bool false, .string ⟨#[]⟩, .string ⟨#[]⟩] 113) := ⟨_, rfl⟩
  have hb1 : Below w.heap.size w w1 := by rw [hw1]; exact (Below.refl _ _).alloc (Nat.le_refl _) _
  have hg1 : w1.heap[w.heap.size]? = some (.cells #[.bool false, .string ⟨#[]⟩, .string ⟨#[]⟩] 113 (0, 0)) := by rw [hw1]; exact heap_alloc_new w _
  rw [← hw1]
  have HB1 := Lib.hid hb1
  have HG1 := Lib.hid hg1
  clear hw1 hb1 hg1
  go_upto_region 3 with (first
    | (go_at_call 87; refine (HCP.out _).mono ?_; rintro e w5 ⟨rfl, rfl⟩)
    | (go_at_call 88; refine (HCUT.out _ HB1.out).mono ?_; rintro e w5 ⟨rfl, nd, rfl⟩))
  obtain ⟨w2, hw2⟩ : ∃ w2, w2 = w5.drewN nd := ⟨_, rfl⟩
  have hb2 : Below w.heap.size w w2 := by rw [hw2]; exact below_drewN HB1.out nd
  have hg2 : w2.heap[w.heap.size]? = some (.cells #[.bool false, .string ⟨#[]⟩, .string ⟨#[]⟩] 113 (0, 0)) := by rw [hw2]; exact HG1.out
  rw [← hw2]
  clear hw2
  obtain ⟨w3, hw3⟩ : ∃ w3, w3 = w2.alloc (.cells #[.bool false, .string W1, .string F1] 113) := ⟨_, rfl⟩
  have hb3 : Below w2.heap.size w2 w3 := by rw [hw3]; exact (Below.refl _ _).alloc (Nat.le_refl _) _
  have hg3 : w3.heap[w2.heap.size]? = some (.cells #[.bool false, .string W1, .string F1] 113 (0, 0)) := by rw [hw3]; exact heap_alloc_new w2 _
  have hg23 := (hb3.block _ (Array.getElem?_eq_some_iff.1 hg2).1).trans hg2
  obtain ⟨g1, hg1e⟩ : ∃ g1, g1 = w2.heap.size := ⟨_, rfl⟩
  rw [← hg1e] at hg3
  have hne : w.heap.size ≠ g1 := by
    rw [hg1e]
    have h1 : w.heap.size < w2.heap.size := (Array.getElem?_eq_some_iff.1 hg2).1
    omega
  have HB3 := Lib.hid (hb2.trans (hb3.mono hb2.size))
  have HG3 := Lib.hid hg3
  have HG23 := Lib.hid hg23
  have HNE := Lib.hid hne
  clear hb2 hg2 hb3 hg3 hg23 hne
  go_upto_region 4 with fail
  rw [← hw3, ← hg1e]
  clear hw3 hg1e
  have hways : W1.size = 1 ∨ 1 < W1.size := by omega
  have HW := Lib.hid hways
  clear hways
  have key : (1 < W1.size → ∃ y : Nat, ∃ hb0 : 0 < W1.size, (W1[0]'hb0).toNat = y ∧ ((y : Int) == 48) = false) := fun h1 => ⟨_, by omega, rfl, by have := HBY.out h1; simp; omega⟩
  have HKEY := Lib.hid key
  clear key
  have hcl : (1 < W1.size ∨ W1.size = 1) := by rcases HW.out with h | h <;> omega
  rcases hcl with h1 | h1
  case' inl =>
    obtain ⟨y, hb0, hy, hyb⟩ := HKEY.out h1
    have c1 : (1 : Int) < (W1.size : Int) := by omega
  case' inr =>
    have c1 : ¬ (1 : Int) < (W1.size : Int) := by omega
  all_goals
    cases P
    case' true =>
      have hp0 := HPF.out rfl
      have hp1 : ((F1.size : Int) == 0) = false := by rw [beq_eq_false_iff_ne]; omega
  all_goals
    go_upto_region 8 with (first
      | (go_at_call 89; refine (HDW.out _).mono ?_; rintro e wA ⟨rfl, hbA⟩)
      | (go_at_call 89; refine (HDF.out _).mono ?_; rintro e wB ⟨rfl, hbB⟩))
    have hb38 := hbA.trans (hbB.mono hbA.size)
    have e8 := (hb38.block _ (Array.getElem?_eq_some_iff.1 HG3.out).1).trans HG3.out
    have z8 := (hb38.block _ (Array.getElem?_eq_some_iff.1 HG23.out).1).trans HG23.out
    obtain ⟨p0, p1, p2, _⟩ := three_cells e8
    obtain ⟨q0, q1, q2, q3, q4, q5⟩ := three_cells z8
    have HZ8 := Lib.hid z8
    have HB38 := Lib.hid hb38
    clear e8 z8 hb38 hbA hbB
    first
      | go_region_with (fail)
      | fail
  all_goals
    go_wp2
    refine bodyPost_ret (results_ct rfl _ _ w.heap.size _ _ _ _ rfl (set3 HZ8.out) Tryz.underlying113 rfl (by rw [Tryz.infoNum]; rfl)) rfl ?_
    exact ⟨rfl, ((((HB3.out.trans (HB38.out.mono HB3.out.size)).setCell (Nat.le_refl _) _).setCell (Nat.le_refl _) _).setCell (Nat.le_refl _) _).drew⟩
end Go.Proofs.YtbkcmgjmhglghaaGreatDoor
