/-
  Unescape, of the program and of the reference; the reference's Escape.
-/
import Derived.Test.YtpjafemkdoeflaaTkA
namespace Go.Proofs.Ytpjafemkdoeflaa
open Go.RowKit

def unescL : By → By
  | [] => []
  | [c] => [c]
  | c :: d :: l => if c = 92 then d :: unescL l else c :: unescL (d :: l)
theorem unescL_one {c : UInt8} {l : By} (h : c ≠ 92) : unescL (c :: l) = c :: unescL l := by
  cases l with
  | nil => rfl
  | cons d l => rw [unescL, if_neg h]
theorem unescL_two {d : UInt8} {l : By} : unescL (92 :: d :: l) = d :: unescL l := by rw [unescL, if_pos rfl]
theorem esc_back : ∀ l : By, plainN (escL l) = (escL l).length ∧ unescL (escL l) = l
  | [] => ⟨rfl, rfl⟩
  | c :: l => by
    obtain ⟨h1, h2⟩ := esc_back l
    have e : escL (c :: l) = esc1 c ++ escL l := rfl
    rw [e]
    unfold esc1
    cases hc : spB c with
    | true =>
      rw [if_pos rfl]
      show plainN (92 :: c :: escL l) = (92 :: c :: escL l).length ∧ unescL (92 :: c :: escL l) = c :: l
      rw [plainN_esc hc, unescL_two, h1, h2]
      exact ⟨rfl, rfl⟩
    | false =>
      rw [if_neg (by decide)]
      show plainN (c :: escL l) = (c :: escL l).length ∧ unescL (c :: escL l) = c :: l
      have h9 : c ≠ 92 := by rintro rfl; cases hc
      rw [plainN_not hc, unescL_one h9, h1, h2]
      exact ⟨rfl, rfl⟩
/-- What Unescape returns. -/
def unT (l : By) : By := if plainN l < l.length then [] else unescL l
def unA (l : By) : Nat := if plainN l < l.length then plainN l else 0
def unE (l : By) : Int := if plainN l < l.length then 3 else 0
def UnP (l : By) (w : World) (e : Ending) (w' : World) : Prop := e = .returned (.tuple #[.string (ba (unT l)), .int .i64 (unA l), .int .i64 (unE l)]) ∧ Below w.heap.size w w'
theorem un_bad {l : By} (h : plainN l < l.length) : unT l = [] ∧ unA l = plainN l ∧ unE l = 3 := by
  unfold unT unA unE
  rw [if_pos h, if_pos h, if_pos h]
  exact ⟨rfl, rfl, rfl⟩
theorem un_good {l : By} (h : ¬ plainN l < l.length) : unT l = unescL l ∧ unA l = 0 ∧ unE l = 0 := by
  unfold unT unA unE
  rw [if_neg h, if_neg h, if_neg h]
  exact ⟨rfl, rfl, rfl⟩
/-- After some rounds: P has been put out, place k reached. -/
def UnSt (l : By) (k : Nat) (P : By) : Prop := k ≤ l.length ∧ plainN l = k + plainN (l.drop k) ∧ unescL l = P ++ unescL (l.drop k) ∧ P.length ≤ k
theorem UnSt.start (l : By) : UnSt l 0 [] := ⟨Nat.zero_le _, by rw [List.drop_zero, Nat.zero_add], rfl, Nat.le_refl _⟩
/-- What may stand at a place. -/
theorem UnSt.ways {l : By} {k : Nat} {P : By} (h : UnSt l k P) (hk : k < (ba l).size) :
    (spB ((ba l)[k]'hk) = false ∧ UnSt l (k + 1) (P ++ [(ba l)[k]'hk])) ∨
    ((ba l)[k]'hk = 92 ∧ ∃ hk2 : k + 1 < (ba l).size, spB ((ba l)[k + 1]'hk2) = true ∧ UnSt l (k + 2) (P ++ [(ba l)[k + 1]'hk2])) ∨
    (spB ((ba l)[k]'hk) = true ∧ ((ba l)[k]'hk ≠ 92 ∨ k + 1 = (ba l).size ∨ ∃ hk2 : k + 1 < (ba l).size, spB ((ba l)[k + 1]'hk2) = false) ∧ plainN l = k) := by
  obtain ⟨a, b, c, d⟩ := h
  have e := drop_byte (s := ba l) hk
  rw [ba_list] at e
  have hsz : (ba l).size = l.length := rfl
  rw [e] at b c
  rcases plainN_ways ((ba l)[k]'hk) (l.drop (k + 1)) with ⟨h1, h2⟩ | ⟨h1, q, r, h2, h3, h4⟩ | ⟨h1, h2, h3⟩
  · left
    have h9 : (ba l)[k]'hk ≠ 92 := by intro h; rw [h] at h1; cases h1
    rw [h2] at b
    rw [unescL_one h9] at c
    exact ⟨h1, by omega, by omega, by rw [c]; simp, by rw [List.length_append, List.length_singleton]; omega⟩
  · right; left
    have hk2 : k + 1 < (ba l).size := by
      have := congrArg List.length h2
      rw [List.length_drop, List.length_cons] at this
      omega
    have e2 := drop_byte (s := ba l) hk2
    rw [ba_list] at e2
    rw [h4] at b
    rw [h1, e2, unescL_two] at c
    rw [e2] at h2
    injection h2 with h5 h6
    rw [← h6] at b
    rw [← h5] at h3
    exact ⟨h1, hk2, h3, by omega, by show plainN l = k + 2 + plainN (l.drop (k + 1 + 1)); omega, by rw [c]; simp, by rw [List.length_append, List.length_singleton]; omega⟩
  · right; right
    rw [h3] at b
    refine ⟨h1, ?_, b⟩
    rcases h2 with h2 | h2 | ⟨q, r, h2, h4⟩
    · exact .inl h2
    · right; left
      have := congrArg List.length h2
      rw [List.length_drop, List.length_nil] at this
      omega
    · right; right
      have hk2 : k + 1 < (ba l).size := by
        have := congrArg List.length h2
        rw [List.length_drop, List.length_cons] at this
        omega
      have e2 := drop_byte (s := ba l) hk2
      rw [ba_list] at e2
      rw [e2] at h2
      injection h2 with h5 h6
      exact ⟨hk2, by rw [h5]; exact h4⟩
theorem UnSt.fin {l : By} {k : Nat} {P : By} (h : UnSt l k P) (hk : l.length ≤ k) : P = unescL l ∧ ¬ plainN l < l.length := by
  obtain ⟨a, b, c, d⟩ := h
  rw [List.drop_eq_nil_of_le hk] at b c
  have hk : k = l.length := by omega
  refine ⟨by rw [c]; simp [unescL], ?_⟩
  have : plainN l = k := b
  omega

set_option maxRecDepth 100000 in
set_option maxHeartbeats 4000000 in
theorem unescape_any (l : By) (hl : l.length ≤ 1000000) (w : World) : Calls Try.prog 14 #[.string (ba l)] w (UnP l w) := by
  unfold UnP
  have hsz : (ba l).size = l.length := rfl
  have hpn := fun W => plain_any (ba l) (by rw [hsz]; omega) W
  unfold NumP at hpn
  rw [ba_list] at hpn
  by_cases hbad : plainN l < l.length
  · obtain ⟨q1, q2, q3⟩ := un_bad hbad
    rw [q1, q2, q3]
    obtain ⟨p, hp⟩ : ∃ p, plainN l = p := ⟨_, rfl⟩
    rw [hp] at hpn hbad
    rw [hp]
    have HP := Lib.hid hpn
    have hb1 : (p : Int) < ((ba l).size : Int) := by rw [hsz]; omega
    clear hpn q1 q2 q3 hp
    go_enter Try.func14, Try.ntmps14
    go_wp2_with fail
    refine (HP.out _).mono ?_
    rintro e w1 ⟨rfl, rfl⟩
    go_wp2
    go_ret3
    exact ⟨rfl, Below.refl _ _⟩
  · obtain ⟨q1, q2, q3⟩ := un_good hbad
    rw [q1, q2, q3]
    have hple := plainN_le l
    have hpe : plainN l = l.length := by omega
    rw [hpe] at hpn
    have HP := Lib.hid hpn
    have hb1 : ¬ ((l.length : Nat) : Int) < ((ba l).size : Int) := by rw [hsz]; omega
    obtain ⟨R, hR⟩ : ∃ R, unescL l = R := ⟨_, rfl⟩
    rw [hR]
    have hb0 : Bld w.heap.size w.heap.size [] (w.alloc (.cells #[.pointer none, .slice none 0 0] 51)) := Lib.IsBuilderF.of (Lib.fresh_isBuilder _ _ w)
    have hbl0 : Below w.heap.size w (w.alloc (.cells #[.pointer none, .slice none 0 0] 51)) := (Below.refl _ _).alloc (Nat.le_refl _) _
    have HB0 := Lib.hid hb0
    have HL0 := Lib.hid hbl0
    have HR := Lib.hid hR
    have HPE := Lib.hid hpe
    clear hb0 hbl0 hR hpn q1 q2 q3 hbad hple hpe
    go_enter Try.func14, Try.ntmps14
    go_wp2_with fail
    refine (HP.out _).mono ?_
    rintro e w1 ⟨rfl, rfl⟩
    go_wp2
    go_loopw [7] (fun iv wr => ∃ (k : Nat) (P : By), iv = .int .i64 k ∧ UnSt l k P ∧ Bld w.heap.size w.heap.size (Lib.byteCells P) wr ∧ Below w.heap.size w wr) (fun iv _ => l.length - (intOf iv).toNat)
    case atStart => exact ⟨0, [], rfl, UnSt.start l, HB0.out, HL0.out⟩
    case round =>
      obtain ⟨k, P, rfl, hst, hbld, hb⟩ := hrel
      have k0 : (0 : Int) ≤ (k : Int) := by omega
      have hkl := hst.1
      have hPk := hst.2.2.2
      by_cases hlt : k < (ba l).size
      · have k1 : (k : Int) < ((ba l).size : Int) := by omega
        have hPl : (Lib.byteCells P).length ≤ 2000000 := by rw [Lib.byteCells_length]; omega
        have HBL := Lib.hid hbld
        have HBW := Lib.hid hb
        have hszb := hb.size
        have hw := hst.ways hlt
        clear hst hbld hb
        rcases hw with ⟨h1, h2⟩ | ⟨h1, hk2, h3, h2⟩ | ⟨_, _, h3⟩
        · obtain ⟨x, hx⟩ : ∃ x : Nat, ((ba l)[k]'hlt).toNat = x := ⟨_, rfl⟩
          have hx9 : ((x : Int) == 92) = false := by
            unfold spB at h1
            rw [hx] at h1
            have := of_decide_eq_false h1
            simp
            omega
          have hcell : Lib.byteCells (P ++ [(ba l)[k]'hlt]) = Lib.byteCells P ++ [.int .u8 (x : Int)] := by rw [Lib.byteCells_append]; unfold Lib.byteCells; simp [hx]
          have hw2 := fun W h1 h2 => writeByte_any w.heap.size w.heap.size (Lib.byteCells P) (x : Int) W h1 (by omega) h2
          have HCE := Lib.hid hcell
          have HW2 := Lib.hid hw2
          have HS2 := Lib.hid h2
          clear h1 h2 hcell hw2 hPl
          go_wp2_with fail
          refine (HW2.out _ HBL.out hszb).mono ?_
          rintro e w4 ⟨rfl, h4, hb4, _⟩
          have HB4 := Lib.hid h4
          have HX4 := Lib.hid (HBW.out.trans hb4)
          clear h4 hb4
          go_wp2
          go_roundw
          case rel => exact ⟨k + 1, _, by go_num, HS2.out, by rw [HCE.out]; exact .inr HB4.out, HX4.out⟩
          case measure => simp [intOf] <;> omega
        · obtain ⟨x, hx⟩ : ∃ x : Nat, ((ba l)[k + 1]'hk2).toNat = x := ⟨_, rfl⟩
          have hx9 : ((ba l)[k]'hlt).toNat = 92 := by rw [h1]; rfl
          have k2 : (k : Int) + 1 < ((ba l).size : Int) := by omega
          have hcell : Lib.byteCells (P ++ [(ba l)[k + 1]'hk2]) = Lib.byteCells P ++ [.int .u8 (x : Int)] := by rw [Lib.byteCells_append]; unfold Lib.byteCells; simp [hx]
          have hw2 := fun W h1 h2 => writeByte_any w.heap.size w.heap.size (Lib.byteCells P) (x : Int) W h1 (by omega) h2
          have HCE := Lib.hid hcell
          have HW2 := Lib.hid hw2
          have HS2 := Lib.hid h2
          clear h1 h2 h3 hcell hw2 hPl
          go_wp2_with fail
          refine (HW2.out _ HBL.out hszb).mono ?_
          rintro e w4 ⟨rfl, h4, hb4, _⟩
          have HB4 := Lib.hid h4
          have HX4 := Lib.hid (HBW.out.trans hb4)
          clear h4 hb4
          go_wp2
          go_roundw
          case rel => exact ⟨k + 2, _, by go_num, HS2.out, by rw [HCE.out]; exact .inr HB4.out, HX4.out⟩
          case measure => simp [intOf] <;> omega
        · exfalso
          have := HPE.out
          omega
      · obtain ⟨hf, _⟩ := hst.fin (by omega)
        rw [hf, HR.out] at hbld
        have k1 : ((ba l).size : Int) ≤ (k : Int) := by omega
        have HB := Lib.hid hbld
        have HE := Lib.hid hb
        clear hbld hb hf hst
        go_wp2_with fail
        refine (Any.Builder_String_any_k Try.layB169 Try.layBx _ _ _ _ HB.out HE.out.size).mono ?_
        rintro e w6 ⟨rfl, _, hbe6, _⟩
        have HE6 := Lib.hid (HE.out.trans hbe6)
        clear hbe6
        go_wp2
        go_ret3
        exact ⟨rfl, HE6.out⟩
end Go.Proofs.Ytpjafemkdoeflaa
