/-
  The reference's Escape and Unescape.
-/
import Derived.Test.YtpjafemkdoeflaaTkU
namespace Go.Proofs.Ytpjafemkdoeflaa
open Go.RowKit

/-- A row of bytes of the call's own, read as a string. -/
theorem conv_own {w : World} {base n : Nat} {v : Value} {P : By} (h : w.ownsRow base 5 1 v n (Lib.byteCells P)) : (convert 38 9 v).run Try.prog w = .ok (.string (ba P)) w := by
  have hlen : P.length = n := by
    have := h.1
    rw [Lib.byteCells_length] at this
    omega
  by_cases hn : 0 < n
  · obtain ⟨g, cap, rfl, _, hlt⟩ := h.form hn
    have hc := h.cells (g := g) rfl
    have e : ∀ j, (⟨g, 0, none⟩ : Addr).add j = ⟨g, 0 + j, none⟩ := by intro j; unfold Addr.add; split <;> simp_all
    have hr := run_convert_bytes_arg (P := Try.prog) w 38 5 Try.underlying38 Try.underlying5 g 0 n cap (P.map fun b => (b.toNat : Int)) (by rw [List.length_map, hlen]) (fun i hi => by
      have hi' : i < P.length := by omega
      have := hc i (.int .u8 (P[i].toNat : Int)) (by unfold Lib.byteCells; simp [hi'])
      rw [e] at this
      rw [this]
      simp [List.getD, hi']) 9 Try.underlying9
    have hs : strOfNums (P.map fun b => (b.toNat : Int)) = ba P := by
      apply ba_of
      rw [strOfNums_data, List.map_map]
      have : (fun n : Int => UInt8.ofNat n.toNat) ∘ (fun b : UInt8 => (b.toNat : Int)) = id := by
        funext b
        simp
      rw [this, List.map_id]
    rw [hs] at hr
    exact hr
  · have hn0 : n = 0 := by omega
    subst hn0
    have hP : P = [] := List.eq_nil_of_length_eq_zero hlen
    subst hP
    rcases h.2 with ⟨rfl, _⟩ | ⟨g, cap, cur, rfl, _⟩
    · exact run_convert_bytes_nil (P := Try.prog) w 38 5 Try.underlying38 Try.underlying5 0 0 9 Try.underlying9
    · exact run_convert_bytes_arg (P := Try.prog) w 38 5 Try.underlying38 Try.underlying5 g 0 0 cap [] rfl (fun i hi => by omega) 9 Try.underlying9

set_option maxRecDepth 100000 in
set_option maxHeartbeats 4000000 in
theorem rescape_any (l : By) (hl : l.length ≤ 1000000) (w : World) : Calls Try.prog 17 #[.string (ba l)] w fun e w' => e = .returned (.string (ba (escL l))) ∧ Below w.heap.size w w' := by
  obtain ⟨i0, hi, hz0, hz1, hz2⟩ := info_parts Try.layBx.infoByte
  have hsz : (ba l).size = l.length := rfl
  obtain ⟨T, hT⟩ : ∃ T, T = w.heap.size := ⟨_, rfl⟩
  have HT := Lib.hid hT
  rw [← hT]
  clear hT
  go_enter Try.func17, Try.ntmps17
  go_wp2
  go_loopw [3, 4] (fun ov iv wr => ∃ k : Nat, k ≤ l.length ∧ iv = .int .i64 k ∧ wr.ownsRow T 5 1 ov (escL (l.take k)).length (Lib.byteCells (escL (l.take k))) ∧ Below T w wr) (fun _ iv _ => l.length - (intOf iv).toNat)
  case atStart => exact ⟨0, Nat.zero_le _, rfl, World.ownsRow_nil _ _ _ _, Below.refl _ _⟩
  case round =>
    obtain ⟨k, hk, rfl, hown, hb⟩ := hrel
    have k0 : (0 : Int) ≤ (k : Int) := by omega
    by_cases hlt : k < (ba l).size
    · have k1 : (k : Int) < ((ba l).size : Int) := by omega
      have hlen := escL_len (l.take k)
      rw [List.length_take] at hlen
      have hmore := escL_more (s := ba l) hlt
      rw [ba_list] at hmore
      unfold esc1 at hmore
      obtain ⟨x, hx⟩ : ∃ x : Nat, ((ba l)[k]'hlt).toNat = x := ⟨_, rfl⟩
      have hsb : spB ((ba l)[k]'hlt) = spI x := by unfold spB; rw [hx]
      have hc1 : Lib.byteCells [(ba l)[k]'hlt] = [.int .u8 (x : Int)] := by unfold Lib.byteCells; simp [hx]
      have hc2 : Lib.byteCells [92, (ba l)[k]'hlt] = [.int .u8 92] ++ [.int .u8 (x : Int)] := by unfold Lib.byteCells; simp [hx]
      rw [hsb] at hmore
      have hsp := fun W => rspecial_any (x : Int) W
      unfold BoolP at hsp
      obtain ⟨P, hP⟩ : ∃ P, escL (l.take k) = P := ⟨_, rfl⟩
      rw [hP] at hown hlen hmore
      have hPl : P.length ≤ 2000000 := by omega
      have HO := Lib.hid hown
      have HBW := Lib.hid hb
      have hTs : T ≤ wr.heap.size := by rw [HT.out]; exact hb.size
      clear hsb hb hP hlen
      cases hb : spI (x : Int) with
      | true =>
        rw [hb] at hsp hmore
        rw [if_pos rfl] at hmore
        have hcell : Lib.byteCells (escL (l.take (k + 1))) = (Lib.byteCells P ++ [.int .u8 92]) ++ [.int .u8 (x : Int)] := by rw [hmore, Lib.byteCells_append, hc2]; simp
        have hnl : (escL (l.take (k + 1))).length = P.length + 1 + 1 := by rw [hmore, List.length_append]; rfl
        have HS := Lib.hid hsp
        have HCE := Lib.hid hcell
        have HNL := Lib.hid hnl
        clear hsp hmore hc1 hc2 hb hcell hnl
        go_wp2_with fail
        refine (HS.out _).mono ?_
        rintro e w2 ⟨rfl, rfl⟩
        go_wp2_with (at_builtin; first
          | (refine wpList_append_own _ rfl _ _ 38 rfl T 5 i0 (.int .u8 0) 1 1 Try.underlying38 hi hz0 hz1 hz2 rfl (by decide) _ _ _ rfl (hown.alloc _) ⟨wr.heap.size, 0, none⟩ 1 1 [.int .u8 92] rfl rfl (cell_one_new _ _ _) (by intro u hu; simp at hu; subst hu; rfl) (by unfold maxLen; omega) (by omega) (by simp; omega) ?_
             intro v3 w3 hE3 hg3 hg3b
             have hb3 : Below T w w3 := (HBW.out.alloc (by have := HT.out; omega) _).grown hg3 (by simp; omega) (fun j e => (HO.out.lt j e).1)
             have hsT3 : T ≤ w3.heap.size := by rw [HT.out]; exact hb3.size)
          | (refine wpList_append_own _ rfl _ _ 38 rfl T 5 i0 (.int .u8 0) 1 1 Try.underlying38 hi hz0 hz1 hz2 rfl (by decide) _ _ _ rfl (hE3.alloc _) ⟨w3.heap.size, 0, none⟩ 1 1 [.int .u8 (x : Int)] rfl rfl (cell_one_new _ _ _) (by intro u hu; simp at hu; subst hu; rfl) (by unfold maxLen; omega) (by omega) (by simp; omega) ?_
             intro v5 w5 hE5 hg5 hg5b
             have hb5 : Below T w w5 := (hb3.alloc (by have := HT.out; omega) _).grown hg5 (by simp; omega) (fun j e => (hE3.lt j e).1)))
        go_roundw
        case rel => exact ⟨k + 1, by omega, by go_num, by rw [HCE.out, HNL.out]; exact hE5, hb5⟩
        case measure => simp [intOf] <;> omega
      | false =>
        rw [hb] at hsp hmore
        rw [if_neg (by decide)] at hmore
        have hcell : Lib.byteCells (escL (l.take (k + 1))) = Lib.byteCells P ++ [.int .u8 (x : Int)] := by rw [hmore, Lib.byteCells_append, hc1]
        have hnl : (escL (l.take (k + 1))).length = P.length + 1 := by rw [hmore, List.length_append]; rfl
        have HS := Lib.hid hsp
        have HCE := Lib.hid hcell
        have HNL := Lib.hid hnl
        clear hsp hmore hc1 hc2 hb hcell hnl
        go_wp2_with fail
        refine (HS.out _).mono ?_
        rintro e w2 ⟨rfl, rfl⟩
        go_wp2_with (at_builtin; refine wpList_append_own _ rfl _ _ 38 rfl T 5 i0 (.int .u8 0) 1 1 Try.underlying38 hi hz0 hz1 hz2 rfl (by decide) _ _ _ rfl (hown.alloc _) ⟨wr.heap.size, 0, none⟩ 1 1 [.int .u8 (x : Int)] rfl rfl (cell_one_new _ _ _) (by intro u hu; simp at hu; subst hu; rfl) (by unfold maxLen; omega) (by omega) (by simp; omega) ?_; intro v3 w3 hE3 hg3 hg3b)
        have hb3 : Below T w w3 := (HBW.out.alloc (by have := HT.out; omega) _).grown hg3 (by simp; omega) (fun j e => (HO.out.lt j e).1)
        go_wp2
        go_roundw
        case rel => exact ⟨k + 1, by omega, by go_num, by rw [HCE.out, HNL.out]; exact hE3, hb3⟩
        case measure => simp [intOf] <;> omega
    · have k1 : ((ba l).size : Int) ≤ (k : Int) := by omega
      have htk : l.take k = l := List.take_of_length_le (by omega)
      rw [htk] at hown
      have hcv := conv_own hown
      have HBW := Lib.hid hb
      clear hown hb htk
      go_wp2
      go_ret
      exact ⟨rfl, HBW.out⟩

set_option maxRecDepth 100000 in
set_option maxHeartbeats 4000000 in
theorem runescape_any (l : By) (hl : l.length ≤ 1000000) (w : World) : Calls Try.prog 15 #[.string (ba l)] w (UnP l w) := by
  unfold UnP
  obtain ⟨i0, hi, hz0, hz1, hz2⟩ := info_parts Try.layBx.infoByte
  have hsz : (ba l).size = l.length := rfl
  obtain ⟨T, hT⟩ : ∃ T, T = w.heap.size := ⟨_, rfl⟩
  have hbad := un_bad (l := l)
  have hgood := un_good (l := l)
  obtain ⟨U, hU⟩ : ∃ U, unT l = U := ⟨_, rfl⟩
  obtain ⟨A, hA⟩ : ∃ A, unA l = A := ⟨_, rfl⟩
  obtain ⟨E, hE⟩ : ∃ E, unE l = E := ⟨_, rfl⟩
  rw [hU, hA, hE] at hbad hgood ⊢
  have HT := Lib.hid hT
  have HBAD := Lib.hid hbad
  have HGOOD := Lib.hid hgood
  rw [← hT]
  clear hT hbad hgood hU hA hE
  go_enter Try.func15, Try.ntmps15
  go_wp2
  go_loopw [5, 6] (fun ov iv wr => ∃ (k : Nat) (P : By), iv = .int .i64 k ∧ UnSt l k P ∧ wr.ownsRow T 5 1 ov P.length (Lib.byteCells P) ∧ Below T w wr) (fun _ iv _ => l.length - (intOf iv).toNat)
  case atStart => exact ⟨0, [], rfl, UnSt.start l, World.ownsRow_nil _ _ _ _, Below.refl _ _⟩
  case round =>
    obtain ⟨k, P, rfl, hst, hown, hb⟩ := hrel
    have k0 : (0 : Int) ≤ (k : Int) := by omega
    have hkl := hst.1
    have hPk := hst.2.2.2
    by_cases hlt : k < (ba l).size
    · have k1 : (k : Int) < ((ba l).size : Int) := by omega
      have HO := Lib.hid hown
      have HBW := Lib.hid hb
      have hTs : T ≤ wr.heap.size := by rw [HT.out]; exact hb.size
      have hw := hst.ways hlt
      clear hst hb
      obtain ⟨x, hx⟩ : ∃ x : Nat, ((ba l)[k]'hlt).toNat = x := ⟨_, rfl⟩
      have hsx : spB ((ba l)[k]'hlt) = spI x := by unfold spB; rw [hx]
      have hsp := fun W => rspecial_any (x : Int) W
      unfold BoolP at hsp
      rcases hw with ⟨h1, h2⟩ | ⟨h1, hk2, h3, h2⟩ | ⟨h1, h4, h3⟩
      · rw [hsx] at h1
        rw [h1] at hsp
        have hx9 : ((x : Int) == 92) = false := by
          have := of_decide_eq_false h1
          simp
          omega
        have hcell : Lib.byteCells (P ++ [(ba l)[k]'hlt]) = Lib.byteCells P ++ [.int .u8 (x : Int)] := by rw [Lib.byteCells_append]; unfold Lib.byteCells; simp [hx]
        have HCE := Lib.hid hcell
        have HS2 := Lib.hid h2
        have HSP := Lib.hid hsp
        clear h1 h2 hcell hsp hsx
        go_wp2_with fail
        refine (HSP.out _).mono ?_
        rintro e w2 ⟨rfl, rfl⟩
        go_wp2_with (at_builtin; refine wpList_append_own _ rfl _ _ 38 rfl T 5 i0 (.int .u8 0) 1 1 Try.underlying38 hi hz0 hz1 hz2 rfl (by decide) _ _ _ rfl (hown.alloc _) ⟨wr.heap.size, 0, none⟩ 1 1 [.int .u8 (x : Int)] rfl rfl (cell_one_new _ _ _) (by intro u hu; simp at hu; subst hu; rfl) (by unfold maxLen; omega) (by omega) (by simp; omega) ?_; intro v3 w3 hE3 hg3 hg3b)
        have hb3 : Below T w w3 := (HBW.out.alloc (by have := HT.out; omega) _).grown hg3 (by simp; omega) (fun j e => (HO.out.lt j e).1)
        go_wp2
        go_roundw
        case rel => exact ⟨k + 1, _, by go_num, HS2.out, by rw [HCE.out, List.length_append]; exact hE3, hb3⟩
        case measure => simp [intOf] <;> omega
      · have hx92 : x = 92 := by rw [← hx, h1]; rfl
        subst hx92
        obtain ⟨y, hy⟩ : ∃ y : Nat, ((ba l)[k + 1]'hk2).toNat = y := ⟨_, rfl⟩
        have hsy : spI (y : Int) = true := by unfold spB at h3; rw [hy] at h3; exact h3
        have hsp2 := fun W => rspecial_any (y : Int) W
        unfold BoolP at hsp2
        rw [hsy] at hsp2
        have k2 : (k : Int) + 1 < ((ba l).size : Int) := by omega
        have hcell : Lib.byteCells (P ++ [(ba l)[k + 1]'hk2]) = Lib.byteCells P ++ [.int .u8 (y : Int)] := by rw [Lib.byteCells_append]; unfold Lib.byteCells; simp [hy]
        have HCE := Lib.hid hcell
        have HS2 := Lib.hid h2
        have HSP := Lib.hid hsp2
        clear h1 h2 h3 hcell hsp hsp2 hsx hsy
        go_wp2_with fail
        refine (HSP.out _).mono ?_
        rintro e w2 ⟨rfl, rfl⟩
        go_wp2_with (at_builtin; refine wpList_append_own _ rfl _ _ 38 rfl T 5 i0 (.int .u8 0) 1 1 Try.underlying38 hi hz0 hz1 hz2 rfl (by decide) _ _ _ rfl (hown.alloc _) ⟨wr.heap.size, 0, none⟩ 1 1 [.int .u8 (y : Int)] rfl rfl (cell_one_new _ _ _) (by intro u hu; simp at hu; subst hu; rfl) (by unfold maxLen; omega) (by omega) (by simp; omega) ?_; intro v3 w3 hE3 hg3 hg3b)
        have hb3 : Below T w w3 := (HBW.out.alloc (by have := HT.out; omega) _).grown hg3 (by simp; omega) (fun j e => (HO.out.lt j e).1)
        go_wp2
        go_roundw
        case rel => exact ⟨k + 2, _, by go_num, HS2.out, by rw [HCE.out, List.length_append]; exact hE3, hb3⟩
        case measure => simp [intOf] <;> omega
      · rw [hsx] at h1
        rw [h1] at hsp
        obtain ⟨q1, q2, q3⟩ := HBAD.out (by omega)
        rw [h3] at q2
        have HQ := Lib.hid (And.intro q1 (And.intro q2 q3))
        have HSP := Lib.hid hsp
        clear hsp h1 h3 hsx q1 q2 q3 hown
        by_cases h92 : x = 92
        · subst h92
          have h92 : (ba l)[k]'hlt = 92 := UInt8.toNat_inj.1 (by rw [hx]; rfl)
          rcases h4 with h4 | h4 | ⟨hk2, h4⟩
          · exact absurd h92 h4
          · have k2 : ¬ (k : Int) + 1 < ((ba l).size : Int) := by omega
            clear h92 h4
            go_wp2_with fail
            refine (HSP.out _).mono ?_
            rintro e w2 ⟨rfl, rfl⟩
            go_wp2
            go_ret3
            obtain ⟨q1, q2, q3⟩ := HQ.out
            rw [q1, q2, q3]
            exact ⟨rfl, HBW.out⟩
          · obtain ⟨y, hy⟩ : ∃ y : Nat, ((ba l)[k + 1]'hk2).toNat = y := ⟨_, rfl⟩
            have hsy : spI (y : Int) = false := by unfold spB at h4; rw [hy] at h4; exact h4
            have hsp2 := fun W => rspecial_any (y : Int) W
            unfold BoolP at hsp2
            rw [hsy] at hsp2
            have k2 : (k : Int) + 1 < ((ba l).size : Int) := by omega
            have HSP2 := Lib.hid hsp2
            clear h92 h4 hsp2 hsy
            go_wp2_with fail
            refine (HSP2.out _).mono ?_
            rintro e w2 ⟨rfl, rfl⟩
            go_wp2_with fail
            refine (HSP.out _).mono ?_
            rintro e w2 ⟨rfl, rfl⟩
            go_wp2
            go_ret3
            obtain ⟨q1, q2, q3⟩ := HQ.out
            rw [q1, q2, q3]
            exact ⟨rfl, HBW.out⟩
        · have hx9 : ((x : Int) == 92) = false := by simp; omega
          clear h4 h92
          go_wp2_with fail
          refine (HSP.out _).mono ?_
          rintro e w2 ⟨rfl, rfl⟩
          go_wp2
          go_ret3
          obtain ⟨q1, q2, q3⟩ := HQ.out
          rw [q1, q2, q3]
          exact ⟨rfl, HBW.out⟩
    · obtain ⟨hf, hng⟩ := hst.fin (by omega)
      obtain ⟨q1, q2, q3⟩ := HGOOD.out hng
      have HQ := Lib.hid (And.intro q1 (And.intro q2 q3))
      have k1 : ((ba l).size : Int) ≤ (k : Int) := by omega
      have hcv := conv_own hown
      have HF := Lib.hid hf
      have HBW := Lib.hid hb
      clear hown hb hf hst q1 q2 q3 hng
      go_wp2
      go_ret3
      obtain ⟨q1, q2, q3⟩ := HQ.out
      rw [q1, q2, q3, ← HF.out]
      exact ⟨rfl, HBW.out⟩
end Go.Proofs.Ytpjafemkdoeflaa
