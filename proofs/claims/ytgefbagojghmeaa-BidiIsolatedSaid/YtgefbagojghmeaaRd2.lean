/-
  calqueref23.depth: of a segment, by recursion.
-/
import Derived.Test.YtgefbagojghmeaaRd1
namespace Go.Proofs.Ytgefbagojghmeaa
open Go.RowKit

def seg (xs : List Int) (a b : Nat) : List Int := (xs.drop a).take (b - a)
theorem seg_nil {xs : List Int} {a b : Nat} (h : b ≤ a) : seg xs a b = [] := by
  unfold seg
  rw [show b - a = 0 by omega, List.take_zero]
theorem seg_cons {xs : List Int} {a b : Nat} (h : a < b) (hb : b ≤ xs.length) : seg xs a b = xs.getD a 0 :: seg xs (a + 1) b := by
  unfold seg
  rw [drop_one (by omega), show b - a = (b - (a + 1)) + 1 by omega, List.take_succ_cons]
theorem seg_take {xs : List Int} {a b j : Nat} (h : a + j ≤ b) : (seg xs a b).take j = seg xs a (a + j) := by
  unfold seg
  rw [List.take_take]
  congr 1
  omega
theorem seg_drop {xs : List Int} {a b j : Nat} : (seg xs a b).drop j = seg xs (a + j) b := by
  unfold seg
  rw [List.drop_take, List.drop_drop]
  congr 1
  omega
theorem match_ge {xs : List Int} {k : Nat} (hk : k < xs.length) (hi : initB (xs.getD k 0) = true) : k + 1 ≤ matchV xs k ∧ matchV xs k ≤ xs.length := by
  unfold matchV
  rw [drop_one hk, mt, if_pos hi]
  cases h : mt (0 + 1) (xs.drop (k + 1)) with
  | none => exact ⟨hk, Nat.le_refl _⟩
  | some j =>
    have := (mt_some _ 0 0 j h).1
    rw [List.length_drop] at this
    show k + 1 ≤ k + (j + 1) ∧ k + (j + 1) ≤ xs.length
    omega
theorem dep_step {xs : List Int} {k b e : Nat} (hk : k < b) (hb : b ≤ xs.length) (hi : initB (xs.getD k 0) = true) (he : min (matchV xs k) b = e) : mh 0 (seg xs k b) = max (1 + mh 0 (seg xs (k + 1) e)) (mh 0 (seg xs (e + 1) b)) := by
  have hs : mt 1 (seg xs (k + 1) b) = (mt 1 (xs.drop (k + 1))).bind fun j => if j < b - (k + 1) then some j else none := mt_take _ _ _
  rw [seg_cons hk hb, mh, if_pos hi]
  unfold matchV at he
  rw [drop_one (by omega), mt, if_pos hi] at he
  have none_case : mt 1 (seg xs (k + 1) b) = none → e = b → mh (0 + 1) (seg xs (k + 1) b) = max (1 + mh 0 (seg xs (k + 1) e)) (mh 0 (seg xs (e + 1) b)) := by
    intro h1 h2
    subst h2
    have h4 : mh 1 (seg xs (k + 1) e) = mh 0 (seg xs (k + 1) e) + 1 := mt_none _ 0 1 h1
    rw [seg_nil (a := e + 1) (by omega)]
    show mh 1 _ = max _ 0
    omega
  cases h : mt (0 + 1) (xs.drop (k + 1)) with
  | none =>
    rw [h] at he
    have he : min xs.length b = e := he
    exact none_case (by rw [hs, show mt 1 (xs.drop (k + 1)) = none from h]; rfl) (by omega)
  | some j =>
    rw [h] at he
    have he : min (k + (j + 1)) b = e := he
    have hs : mt 1 (seg xs (k + 1) b) = if j < b - (k + 1) then some j else none := by rw [hs, show mt 1 (xs.drop (k + 1)) = some j from h]; rfl
    by_cases hj : j < b - (k + 1)
    · rw [if_pos hj] at hs
      obtain ⟨h1, h2, h3⟩ := mt_some _ 0 0 j hs
      have h3 : mh 1 (seg xs (k + 1) b) = max (mh 1 ((seg xs (k + 1) b).take j)) (mh 0 ((seg xs (k + 1) b).drop (j + 1))) := h3
      have h4 : mh 1 ((seg xs (k + 1) b).take j) = mh 0 ((seg xs (k + 1) b).take j) + 1 := mt_none _ 0 1 h2
      have e1 : e = k + 1 + j := by omega
      subst e1
      rw [h4, seg_take (by omega), seg_drop] at h3
      show mh 1 _ = _
      rw [h3, Nat.add_comm 1, show k + 1 + (j + 1) = k + 1 + j + 1 by omega]
    · rw [if_neg hj] at hs
      exact none_case hs (by omega)
theorem dep_skip {xs : List Int} {k b : Nat} (hk : k < b) (hb : b ≤ xs.length) (hi : ¬ initB (xs.getD k 0) = true) : mh 0 (seg xs k b) = mh 0 (seg xs (k + 1) b) := by
  rw [seg_cons hk hb, mh, if_neg hi]
  split
  · show max 0 _ = _
    rw [Nat.zero_max]
  · rfl
theorem mh_len : ∀ (l : List Int) (h : Nat), mh h l ≤ h + l.length
  | [], h => Nat.le_refl _
  | c :: l, h => by
    rw [mh_cons]
    have h1 := mh_len l (h + 1)
    have h2 := mh_len l (h - 1)
    have h3 := mh_len l h
    simp only [List.length_cons]
    repeat' split
    all_goals omega
theorem seg_len (xs : List Int) (a b : Nat) : (seg xs a b).length ≤ xs.length := by
  unfold seg
  rw [List.length_take, List.length_drop]
  omega
def DepP (xs : List Int) (a b : Nat) (w : World) (e : Ending) (w' : World) : Prop := e = .returned (.int .i64 (mh 0 (seg xs a b))) ∧ w = w'

set_option maxRecDepth 100000 in
set_option maxHeartbeats 1000000 in
theorem rdepth_any (v : Value) (xs : List Int) (B : Nat) (w : World) (hv : IsInts w B v xs) (hx : xs.length ≤ 1000000) : ∀ (m a b : Nat), b - a ≤ m → b ≤ xs.length → a ≤ xs.length → Calls Try.prog 39 #[v, .int .i64 a, .int .i64 b] w (DepP xs a b w) := by
  intro m
  induction m using Nat.strongRecOn with
  | ind m ih =>
  intro a b hm hb ha
  have hmt := fun k hk hi => match_any v xs B k w hv hx hk hi
  have hih : ∀ k e : Nat, a ≤ k → k < b → k + 1 ≤ e → e ≤ b → Calls Try.prog 39 #[v, .int .i64 (k + 1 : Nat), .int .i64 e] w (DepP xs (k + 1) e w) := fun k e h1 h2 h3 h4 => ih (e - (k + 1)) (by omega) (k + 1) e (Nat.le_refl _) (by omega) (by omega)
  clear ih
  obtain ⟨ao, ca, rfl, hc⟩ := hv
  obtain ⟨n, hn⟩ : ∃ n, n = xs.length := ⟨_, rfl⟩
  rw [← hn] at hc hx hb ha hmt hih
  rw [← hn]
  unfold DepP at hih ⊢
  unfold MatchP at hmt
  have htl := Nat.le_trans (mh_len (seg xs a b) 0) (by rw [Nat.zero_add]; exact seg_len xs a b)
  obtain ⟨R, hR⟩ : ∃ R, mh 0 (seg xs a b) = R := ⟨_, rfl⟩
  rw [hR] at htl
  rw [hR]
  rw [← hn] at htl
  have HA := Lib.hid hc
  have HN := Lib.hid hn
  have HR := Lib.hid hR
  have HM := Lib.hid hmt
  have HIH := Lib.hid hih
  clear hc hn hR hmt hih
  go_enter Try.func39, Try.ntmps39
  go_wp2
  go_loopw [7, 8, 9] (fun d i _ wr => ∃ k D : Nat, a ≤ k ∧ k ≤ b + 1 + a ∧ i = .int .i64 k ∧ d = .int .i64 D ∧ R = max D (mh 0 (seg xs k b)) ∧ w = wr) (fun _ i _ _ => b + 1 - (intOf i).toNat)
  case atStart => exact ⟨a, 0, Nat.le_refl _, by omega, rfl, rfl, by rw [HR.out]; simp, rfl⟩
  case round =>
    obtain ⟨k, D, hk0, hk, rfl, rfl, hm, rfl⟩ := hrel
    have k0 : (0 : Int) ≤ (k : Int) := by omega
    by_cases hlt : k < b
    · obtain ⟨b0, o, rfl, _, hcl⟩ := HA.out (by omega)
      have c1 := hcl k (by omega)
      have hsk := fun h => dep_skip (xs := xs) (k := k) (b := b) hlt (by have := HN.out; omega) h
      have hst := fun h e he => dep_step (xs := xs) (k := k) (b := b) (e := e) hlt (by have := HN.out; omega) h he
      have hge := fun h => match_ge (xs := xs) (k := k) (by have := HN.out; omega) h
      obtain ⟨x, hx'⟩ : ∃ x, xs.getD k 0 = x := ⟨_, rfl⟩
      rw [hx'] at c1 hsk hst hge
      have k1 : (k : Int) < (b : Int) := by omega
      have k2 : (k : Int) < (n : Int) := by omega
      have ci := cls_init x
      have hcz := class_any x w
      unfold ClassP at hcz
      obtain ⟨z, hz⟩ : ∃ z, cls x = z := ⟨_, rfl⟩
      rw [hz] at hcz ci
      have HC := Lib.hid hcz
      by_cases h4 : z = 4
      · have hxi := ci.1 h4
        subst h4
        have hmk := HM.out k (by omega) (by rw [hx']; exact hxi)
        obtain ⟨h1, h2⟩ := hge hxi
        obtain ⟨M, hM⟩ : ∃ M, matchV xs k = M := ⟨_, rfl⟩
        rw [hM] at hmk h1 h2 hst
        obtain ⟨e, he⟩ : ∃ e, min M b = e := ⟨_, rfl⟩
        have hst := hst hxi e he
        have hie := HIH.out k e hk0 hlt (by omega) (by omega)
        have hel := Nat.le_trans (mh_len (seg xs (k + 1) e) 0) (by rw [Nat.zero_add]; exact seg_len xs (k + 1) e)
        obtain ⟨Q, hQ⟩ : ∃ Q, mh 0 (seg xs (k + 1) e) = Q := ⟨_, rfl⟩
        rw [hQ] at hst hie hel
        have hei : min (M : Int) (b : Int) = (e : Int) := by omega
        have HMK := Lib.hid hmk
        have HIE := Lib.hid hie
        have HST := Lib.hid hst
        have HMM := Lib.hid hm
        have hn1 := HN.out
        rw [← hn1] at hel
        have hD : D ≤ R := by rw [hm]; exact Nat.le_max_left _ _
        clear hcl hx' hcz hz hsk hge hmk hie hst hm hQ hM ci hn1
        go_wp2_with fail
        refine HC.out.mono ?_
        rintro e1 w1 ⟨rfl, rfl⟩
        go_wp2_with fail
        refine HMK.out.mono ?_
        rintro e1 w1 ⟨rfl, rfl⟩
        go_wp2_with fail
        refine HIE.out.mono ?_
        rintro e1 w1 ⟨rfl, rfl⟩
        go_wp2
        go_roundw
        case rel =>
          refine ⟨e + 1, max D (1 + Q), by omega, by omega, by go_num, ?_, ?_, trivial⟩
          · congr 1
            omega
          · rw [HMM.out, HST.out]
            omega
        case measure => simp [intOf]; omega
      · have hni : ¬ initB x = true := fun e => h4 (ci.2 e)
        have hsk := hsk hni
        have HSK := Lib.hid hsk
        have HMM := Lib.hid hm
        clear hcl hx' hcz hz hsk hge hst hm ci
        go_wp2_with fail
        refine HC.out.mono ?_
        rintro e1 w1 ⟨rfl, rfl⟩
        go_wp2
        go_roundw
        case rel => exact ⟨k + 1, D, by omega, by omega, by go_num, rfl, by rw [HMM.out, HSK.out], trivial⟩
        case measure => simp [intOf]; omega
    · rw [seg_nil (by omega)] at hm
      have hm : R = max D 0 := hm
      have hm : R = D := by omega
      subst hm
      go_wp2
      go_ret
      exact ⟨rfl, rfl⟩
theorem seg_all (xs : List Int) : seg xs 0 xs.length = xs := by
  unfold seg
  rw [List.drop_zero, Nat.sub_zero, List.take_length]
def RDepthP (xs : List Int) (w : World) (e : Ending) (w' : World) : Prop := e = .returned (.int .i64 (mh 0 xs)) ∧ Below w.heap.size w w'
set_option maxRecDepth 100000 in
theorem refdepth_any (s : ByteArray) (hs : s.size ≤ 10000) (w : World) : Calls Try.prog 23 #[.string s] w (RDepthP (ints (U8.els s.data.toList)) w) := by
  have hle := U8.els_len s.data.toList
  rw [U8.size_len] at hle
  have hli : (ints (U8.els s.data.toList)).length ≤ 10000 := by unfold ints; rw [List.length_map]; omega
  have hd := refdecode_any s (by omega)
  unfold DecP at hd
  obtain ⟨xs, hxs⟩ : ∃ xs, ints (U8.els s.data.toList) = xs := ⟨_, rfl⟩
  rw [hxs] at hd hli
  rw [hxs]
  have HD := Lib.hid hd
  clear hd hxs
  go_enter Try.func23, Try.ntmps23
  go_wp2_with fail
  refine (HD.out _).mono ?_
  rintro e w1 ⟨v, rfl, ho, hb1⟩
  have hii := IsInts.of_own ho
  have hr := rdepth_any v xs _ w1 hii (by omega) xs.length 0 xs.length (by omega) (Nat.le_refl _) (Nat.zero_le _)
  unfold DepP at hr
  rw [seg_all] at hr
  obtain ⟨ao, ca, rfl, _⟩ := hii
  have HR := Lib.hid hr
  have HB1 := Lib.hid hb1
  clear hr hb1 ho
  go_wp2_with fail
  refine HR.out.mono ?_
  rintro e w2 ⟨rfl, rfl⟩
  go_wp2
  go_ret
  exact ⟨rfl, HB1.out⟩
end Go.Proofs.Ytgefbagojghmeaa
