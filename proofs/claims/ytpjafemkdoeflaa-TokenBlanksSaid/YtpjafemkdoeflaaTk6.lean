/-
  token.next: the first token of a string.
-/
import Derived.Test.YtpjafemkdoeflaaTk5
namespace Go.Proofs.Ytpjafemkdoeflaa
open Go.RowKit

theorem tw_take {p : UInt8 → Bool} (l : By) : l.take (l.takeWhile p).length = l.takeWhile p := by
  have h := (tw_split (p := p) l).1
  have h2 := List.take_left (l₁ := l.takeWhile p) (l₂ := l.drop (l.takeWhile p).length)
  rw [h] at h2
  exact h2
theorem ba_cut (l : By) (n : Nat) : (ba l).extract 0 n = ba (l.take n) := by
  rw [ba_ext (ba_list l), List.drop_zero, Nat.sub_zero]
theorem tok1_open (br : Bool) (r : By) : tok1 br (123 :: r) = some (2, [123], 1) := rfl
theorem tok1_close (br : Bool) (r : By) : tok1 br (125 :: r) = some (3, [125], 1) := rfl
theorem tok1_comma (r : By) : tok1 true (44 :: r) = some (8, [44], 1) := rfl
theorem tok1_hash (r : By) : tok1 false (35 :: r) = some (4, [35], 1) := rfl
theorem tok1_el (r : By) : tok1 false (60 :: r) = elemT r := rfl
theorem tok1_word {c : UInt8} {r : By} (h1 : c ≠ 123) (h2 : c ≠ 125) (h3 : c ≠ 44) : tok1 true (c :: r) = if (c :: r).takeWhile wdB = [] then none else some (9, (c :: r).takeWhile wdB, ((c :: r).takeWhile wdB).length) := by
  unfold tok1
  dsimp only
  rw [if_neg h1, if_neg h2, if_pos rfl, if_neg h3]
theorem tok1_text {c : UInt8} {r : By} (h1 : c ≠ 123) (h2 : c ≠ 125) (h3 : c ≠ 35) (h4 : c ≠ 60) : tok1 false (c :: r) = if plainN (c :: r) = 0 then none else some (1, (c :: r).take (plainN (c :: r)), plainN (c :: r)) := by
  unfold tok1
  dsimp only
  rw [if_neg h1, if_neg h2, if_neg (by decide), if_neg h3, if_neg h4]
def NextP (br : Bool) (l : By) (w : World) (e : Ending) (w' : World) : Prop := e = .returned (elV (tok1 br l)) ∧ Below w.heap.size w w'

set_option maxRecDepth 100000 in
set_option maxHeartbeats 2000000 in
theorem next_any (br : Bool) (c : UInt8) (r : By) (hs : r.length ≤ 100000) (w : World) : Calls Try.prog 20 #[.string (ba (c :: r)), .bool br] w (NextP br (c :: r) w) := by
  unfold NextP
  have hsz : (ba (c :: r)).size = r.length + 1 := rfl
  have hp : 0 < (ba (c :: r)).size := by rw [hsz]; omega
  have hx : ((ba (c :: r))[0]'hp).toNat = c.toNat := rfl
  have h1s : (1 : Int) ≤ ((ba (c :: r)).size : Int) := by omega
  have hcut1 : (ba (c :: r)).extract 0 1 = ba [c] := by rw [ba_cut]; rfl
  by_cases c1 : c = 123
  · subst c1
    rw [tok1_open]
    have HCUT := Lib.hid hcut1
    clear hcut1
    go_enter Try.func20, Try.ntmps20
    go_wp2
    go_region
    rw [HCUT.out]
    go_wp2
    go_ret3
    exact ⟨rfl, below_drew _⟩
  have d1 : ((c.toNat : Int) == 123) = false := by
    simp
    intro h
    exact c1 (UInt8.toNat_inj.1 (by have e : (123 : UInt8).toNat = 123 := rfl
                                    omega))
  by_cases c2 : c = 125
  · subst c2
    rw [tok1_close]
    have HCUT := Lib.hid hcut1
    clear hcut1
    go_enter Try.func20, Try.ntmps20
    go_wp2
    go_region
    rw [HCUT.out]
    go_wp2
    go_ret3
    exact ⟨rfl, below_drew _⟩
  have d2 : ((c.toNat : Int) == 125) = false := by
    simp
    intro h
    exact c2 (UInt8.toNat_inj.1 (by have e : (125 : UInt8).toNat = 125 := rfl
                                    omega))
  cases br with
  | true =>
    by_cases c3 : c = 44
    · subst c3
      rw [tok1_comma]
      have HCUT := Lib.hid hcut1
      clear hcut1
      go_enter Try.func20, Try.ntmps20
      go_wp2
      go_region
      rw [HCUT.out]
      go_wp2
      go_ret3
      exact ⟨rfl, below_drew _⟩
    have d3 : ((c.toNat : Int) == 44) = false := by
      simp
      intro h
      exact c3 (UInt8.toNat_inj.1 (by have e : (44 : UInt8).toNat = 44 := rfl
                                      omega))
    rw [tok1_word c1 c2 c3]
    have hw := fun W => word_any (ba (c :: r)) (by rw [hsz]; omega) W
    unfold NumP at hw
    rw [ba_list] at hw
    have hcut := ba_cut (c :: r) ((c :: r).takeWhile wdB).length
    rw [tw_take] at hcut
    have hle : ((c :: r).takeWhile wdB).length ≤ r.length + 1 := by
      have := congrArg List.length (tw_split (p := wdB) (c :: r)).1
      rw [List.length_append] at this
      simp at this ⊢
      omega
    obtain ⟨t, ht⟩ : ∃ t, (c :: r).takeWhile wdB = t := ⟨_, rfl⟩
    rw [ht] at hw hcut hle
    rw [ht]
    have HW := Lib.hid hw
    have HCUT := Lib.hid hcut
    clear hw hcut ht hcut1
    by_cases ht0 : t = []
    · subst ht0
      go_enter Try.func20, Try.ntmps20
      go_wp2_with fail
      refine (HW.out _).mono ?_
      rintro e w1 ⟨rfl, rfl⟩
      go_wp2
      go_ret3
      exact ⟨rfl, Below.refl _ _⟩
    · rw [if_neg ht0]
      have hn0 : ((t.length : Int) == 0) = false := by
        have := List.length_pos_iff.2 ht0
        simp
        omega
      have hnl : (t.length : Int) ≤ ((ba (c :: r)).size : Int) := by rw [hsz]; omega
      go_enter Try.func20, Try.ntmps20
      go_wp2_with fail
      refine (HW.out _).mono ?_
      rintro e w1 ⟨rfl, rfl⟩
      go_wp2
      go_region
      rw [HCUT.out]
      go_wp2
      go_ret3
      exact ⟨rfl, below_drew _⟩
  | false =>
    by_cases c3 : c = 35
    · subst c3
      rw [tok1_hash]
      have HCUT := Lib.hid hcut1
      clear hcut1
      go_enter Try.func20, Try.ntmps20
      go_wp2
      go_region
      rw [HCUT.out]
      go_wp2
      go_ret3
      exact ⟨rfl, below_drew _⟩
    have d3 : ((c.toNat : Int) == 35) = false := by
      simp
      intro h
      exact c3 (UInt8.toNat_inj.1 (by have e : (35 : UInt8).toNat = 35 := rfl
                                      omega))
    by_cases c4 : c = 60
    · subst c4
      rw [tok1_el]
      have he := element_any r hs w
      unfold ElP at he
      have HE := Lib.hid he
      clear he hcut1
      cases hel : elemT r with
      | none =>
        rw [hel] at HE
        unfold elV at HE
        go_enter Try.func20, Try.ntmps20
        go_wp2_with fail
        refine HE.out.mono ?_
        rintro e w1 ⟨rfl, hb⟩
        have HB := Lib.hid hb
        clear hb
        go_wp2
        go_ret3
        exact ⟨rfl, HB.out⟩
      | some q =>
        obtain ⟨k, n, z⟩ := q
        rw [hel] at HE
        unfold elV at HE
        go_enter Try.func20, Try.ntmps20
        go_wp2_with fail
        refine HE.out.mono ?_
        rintro e w1 ⟨rfl, hb⟩
        have HB := Lib.hid hb
        clear hb
        go_wp2
        go_ret3
        exact ⟨rfl, HB.out⟩
    have d4 : ((c.toNat : Int) == 60) = false := by
      simp
      intro h
      exact c4 (UInt8.toNat_inj.1 (by have e : (60 : UInt8).toNat = 60 := rfl
                                      omega))
    rw [tok1_text c1 c2 c3 c4]
    have hw := fun W => plain_any (ba (c :: r)) (by rw [hsz]; omega) W
    unfold NumP at hw
    rw [ba_list] at hw
    have hcut := ba_cut (c :: r) (plainN (c :: r))
    have hle := plainN_le (c :: r)
    rw [List.length_cons] at hle
    obtain ⟨n, hn⟩ : ∃ n, plainN (c :: r) = n := ⟨_, rfl⟩
    rw [hn] at hw hcut hle
    rw [hn]
    have HW := Lib.hid hw
    have HCUT := Lib.hid hcut
    clear hw hcut hn hcut1
    by_cases hn0 : n = 0
    · subst hn0
      go_enter Try.func20, Try.ntmps20
      go_wp2_with fail
      refine (HW.out _).mono ?_
      rintro e w1 ⟨rfl, rfl⟩
      go_wp2
      go_ret3
      exact ⟨rfl, Below.refl _ _⟩
    · rw [if_neg hn0]
      have hn1 : ((n : Int) == 0) = false := by
        simp
        omega
      have hnl : (n : Int) ≤ ((ba (c :: r)).size : Int) := by rw [hsz]; omega
      go_enter Try.func20, Try.ntmps20
      go_wp2_with fail
      refine (HW.out _).mono ?_
      rintro e w1 ⟨rfl, rfl⟩
      go_wp2
      go_region
      rw [HCUT.out]
      go_wp2
      go_ret3
      exact ⟨rfl, below_drew _⟩
end Go.Proofs.Ytpjafemkdoeflaa
