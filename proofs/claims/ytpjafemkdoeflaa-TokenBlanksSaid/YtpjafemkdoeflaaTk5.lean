/-
  token.element: the element with which a string begins.
-/
import Derived.Test.YtpjafemkdoeflaaTkCut
import Derived.Lib.Bytealg
import Derived.Lib.IndexBytes
import Derived.Laws.Externs
import Derived.OwnWalk
namespace Go.Proofs.Ytpjafemkdoeflaa
open Go.RowKit

def ba (l : By) : ByteArray := ⟨l.toArray⟩
theorem ba_of {s : ByteArray} {l : By} (h : s.data.toList = l) : s = ba l := by
  apply ByteArray.ext
  rw [← h]
  show s.data = s.data.toList.toArray
  simp
theorem ba_list (l : By) : (ba l).data.toList = l := rfl
theorem ba_size (l : By) : (ba l).size = l.length := rfl
theorem ba_ext {s : ByteArray} {l : By} (h : s.data.toList = l) (a b : Nat) : s.extract a b = ba ((l.drop a).take (b - a)) := by
  apply ba_of
  rw [Lib.extract_data, h]
theorem idx_tw (c : UInt8) : ∀ l : By, Lib.indexByte l c = if (l.takeWhile (· != c)).length = l.length then -1 else ((l.takeWhile (· != c)).length : Int)
  | [] => rfl
  | x :: l => by
    rw [Lib.indexByte]
    by_cases hx : x = c
    · subst hx
      rw [if_pos (by simp), List.takeWhile_cons_of_neg (by simp)]
      simp
    · rw [if_neg (by simpa using hx), List.takeWhile_cons_of_pos (by simpa using hx), idx_tw c l]
      have hle : (l.takeWhile (· != c)).length ≤ l.length := by
        have := congrArg List.length (tw_split (p := (· != c)) l).1
        rw [List.length_append] at this
        omega
      by_cases h : (l.takeWhile (· != c)).length = l.length
      · rw [if_pos h, if_pos (by simp), if_pos (by simp [h])]
      · have hne : ¬ ((((l.takeWhile (· != c)).length : Int)) == -1) = true := by
          simp
        rw [if_neg h, if_neg hne, if_neg (by simp [h])]
        rfl

set_option maxHeartbeats 1000000 in
set_option maxRecDepth 100000 in
theorem lindex_any (s : ByteArray) (c : Int) (w : World) :
    Calls Try.prog 42 #[.string s, .int .u8 c] w fun e w' => e = .returned (.int .i64 (Lib.indexByte s.data.toList c.toNat.toUInt8)) ∧ w = w' := by
  go_enter Try.func42, Try.ntmps42
  go_wp2
  rw [run_callFunc_extern Try.func45 (by kernel_rfl) (by kernel_rfl) (by kernel_rfl) (e := Extern.BytealgIndexByte.indexByte) (by kernel_rfl), Lib.run_indexByteString]
  simp only [Result.andThen]
  rw [Oper.upon_value]
  go_wp2
  go_ret
  exact ⟨rfl, rfl⟩
theorem index_any (s : ByteArray) (w : World) :
    Calls Try.prog 38 #[.string s, .int .u8 62] w fun e w' => e = .returned (.int .i64 (Lib.indexByte s.data.toList 62)) ∧ w = w' := by
  have hl := lindex_any s 62
  have HL := Lib.hid hl
  clear hl
  go_enter Try.func38, Try.ntmps38
  go_wp2_with fail
  refine (HL.out _).mono ?_
  rintro e w1 ⟨rfl, rfl⟩
  go_wp2
  go_ret
  exact ⟨rfl, rfl⟩
theorem cutP_ba (l : By) : cutPV (ba l) ⟨#[47]⟩ = if l.head? = some 47 then .tuple #[.string (ba l.tail), .bool true] else .tuple #[.string (ba l), .bool false] := by
  have hp : preB (ba l) ⟨#[47]⟩ = decide (l.head? = some 47) := by
    unfold preB
    rw [ba_ext (ba_list l), ba_size]
    show (decide (1 ≤ l.length) && decide (ba ((l.drop 0).take (1 - 0)) = ba [47])) = _
    cases l with
    | nil => rfl
    | cons x l =>
      rw [decide_eq_true (by simp), Bool.true_and]
      simp [ba]
  unfold cutPV
  rw [hp]
  by_cases h : l.head? = some 47
  · rw [if_pos h, decide_eq_true h, if_pos rfl, ba_ext (ba_list l), ba_size]
    show Value.tuple #[.string (ba ((l.drop 1).take (l.length - 1))), .bool true] = _
    rw [List.take_of_length_le (by simp), List.drop_one]
  · rw [if_neg h, decide_eq_false h, if_neg (by decide)]
theorem cutS_ba (l : By) : cutSV (ba l) ⟨#[47]⟩ = if l.getLast? = some 47 then .tuple #[.string (ba l.dropLast), .bool true] else .tuple #[.string (ba l), .bool false] := by
  have hp : sufB (ba l) ⟨#[47]⟩ = decide (l.getLast? = some 47) := by
    unfold sufB
    rw [ba_ext (ba_list l), ba_size]
    show (decide (1 ≤ l.length) && decide (ba ((l.drop (l.length - 1)).take (l.length - (l.length - 1))) = ba [47])) = _
    rcases List.eq_nil_or_concat l with rfl | ⟨m, x, rfl⟩
    · rfl
    · rw [decide_eq_true (by simp), Bool.true_and]
      simp [ba]
  unfold cutSV
  rw [hp]
  by_cases h : l.getLast? = some 47
  · rw [if_pos h, decide_eq_true h, if_pos rfl, ba_ext (ba_list l), ba_size]
    show Value.tuple #[.string (ba ((l.drop 0).take (l.length - 1 - 0))), .bool true] = _
    rw [List.drop_zero, Nat.sub_zero, List.dropLast_eq_take]
  · rw [if_neg h, decide_eq_false h, if_neg (by decide)]
/-- An element as a result. -/
def elV (o : Option (Nat × By × Nat)) : Value := match o with
  | none => .tuple #[.int .i64 0, .string ⟨#[]⟩, .int .i64 0]
  | some (k, n, z) => .tuple #[.int .i64 k, .string (ba n), .int .i64 z]
def ElP (r : By) (w : World) (e : Ending) (w' : World) : Prop := e = .returned (elV (elemT r)) ∧ Below w.heap.size w w'
theorem below_drew (w : World) : Below w.heap.size w w.drew := ⟨rfl, rfl, rfl, Nat.le_refl _, fun _ _ => rfl⟩

set_option maxRecDepth 100000 in
set_option maxHeartbeats 1000000 in
theorem element_any (r : By) (hs : r.length ≤ 100000) (w : World) : Calls Try.prog 32 #[.string (ba (60 :: r))] w (ElP r w) := by
  unfold ElP
  rw [← elemP_eq]
  have hi := fun W => index_any (ba (60 :: r)) W
  have hix : Lib.indexByte (ba (60 :: r)).data.toList 62 = if (r.takeWhile (· != 62)).length = r.length then -1 else ((r.takeWhile (· != 62)).length : Int) + 1 := by
    rw [ba_list, idx_tw, List.takeWhile_cons_of_pos (by decide), List.length_cons, List.length_cons]
    by_cases h : (r.takeWhile (· != 62)).length = r.length
    · rw [if_pos h, if_pos (by rw [h])]
    · rw [if_neg h, if_neg (by omega)]
      omega
  simp only [hix] at hi
  clear hix
  have hsp := (tw_split (p := (· != (62 : UInt8))) r).1
  unfold elemP
  obtain ⟨nm, hnm⟩ : ∃ nm, r.takeWhile (· != 62) = nm := ⟨_, rfl⟩
  rw [hnm] at hsp ⊢
  simp only [hnm] at hi
  have hle : nm.length ≤ r.length := by
    have := congrArg List.length hsp
    rw [List.length_append] at this
    omega
  have hsz : (ba (60 :: r)).size = r.length + 1 := rfl
  have hcut : (ba (60 :: r)).extract 1 (nm.length + 1) = ba nm := by
    rw [ba_ext (ba_list _)]
    congr 1
    rw [Nat.add_sub_cancel, List.drop_succ_cons, List.drop_zero, ← hsp, List.take_left]
  dsimp only
  by_cases hl : nm.length = r.length
  · rw [if_pos hl]
    simp only [if_pos hl] at hi
    have HI := Lib.hid hi
    clear hi hsp hnm hcut
    go_enter Try.func32, Try.ntmps32
    go_wp2_with fail
    refine (HI.out _).mono ?_
    rintro e w1 ⟨rfl, rfl⟩
    go_wp2
    go_ret3
    exact ⟨rfl, Below.refl _ _⟩
  · rw [if_neg hl]
    simp only [if_neg hl] at hi
    have HI := Lib.hid hi
    have hn1 : (nm.length : Int) + 1 ≤ ((ba (60 :: r)).size : Int) := by rw [hsz]; omega
    have hn0 : ¬ (nm.length : Int) + 1 < 0 := by omega
    have hn2 : (1 : Int) ≤ (nm.length : Int) + 1 := by omega
    have HP := Lib.hid (cutP_ba nm)
    have HS := Lib.hid (cutS_ba nm)
    have hcp := fun W => cutp_any (ba nm) ⟨#[47]⟩ W
    have hcs := fun W => cuts_any (ba nm) ⟨#[47]⟩ (by rw [ba_size]; omega) (by decide) W
    simp only [HP.out] at hcp
    simp only [HS.out] at hcs
    have HCP := Lib.hid hcp
    have HCS := Lib.hid hcs
    have HCUT := Lib.hid hcut
    have hnl : nm.length ≤ 100000 := by omega
    clear hi hsp hnm hcut hcp hcs HP HS
    by_cases h47 : nm.head? = some 47
    · rw [if_pos h47]
      simp only [if_pos h47] at HCP
      have hnn := fun W => name_any (ba nm.tail) (by rw [ba_size, List.length_tail]; omega) W
      unfold BoolP at hnn
      rw [ba_list] at hnn
      obtain ⟨b, hb⟩ : ∃ b, nameB nm.tail = b := ⟨_, rfl⟩
      rw [hb] at hnn
      rw [hb]
      have HNN := Lib.hid hnn
      clear hnn hb HCS h47
      cases b
      all_goals
        go_enter Try.func32, Try.ntmps32
        go_wp2_with fail
        refine (HI.out _).mono ?_
        rintro e w1 ⟨rfl, rfl⟩
        go_wp2
        go_region
        rw [HCUT.out]
        go_wp2_with fail
        refine (HCP.out _).mono ?_
        rintro e w1 ⟨rfl, rfl⟩
        go_wp2_with fail
        refine (HNN.out _).mono ?_
        rintro e w1 ⟨rfl, rfl⟩
        go_wp2
        go_ret3
        exact ⟨rfl, below_drew _⟩
    · rw [if_neg h47]
      simp only [if_neg h47] at HCP
      by_cases hlast : nm.getLast? = some 47
      · rw [if_pos hlast]
        simp only [if_pos hlast] at HCS
        have hnn := fun W => name_any (ba nm.dropLast) (by rw [ba_size, List.length_dropLast]; omega) W
        unfold BoolP at hnn
        rw [ba_list] at hnn
        obtain ⟨b, hb⟩ : ∃ b, nameB nm.dropLast = b := ⟨_, rfl⟩
        rw [hb] at hnn
        rw [hb]
        have HNN := Lib.hid hnn
        clear hnn hb h47 hlast
        cases b
        all_goals
          go_enter Try.func32, Try.ntmps32
          go_wp2_with fail
          refine (HI.out _).mono ?_
          rintro e w1 ⟨rfl, rfl⟩
          go_wp2
          go_region
          rw [HCUT.out]
          go_wp2_with fail
          refine (HCP.out _).mono ?_
          rintro e w1 ⟨rfl, rfl⟩
          go_wp2_with fail
          refine (HCS.out _).mono ?_
          rintro e w1 ⟨rfl, rfl⟩
          go_wp2_with fail
          refine (HNN.out _).mono ?_
          rintro e w1 ⟨rfl, rfl⟩
          go_wp2
          go_ret3
          exact ⟨rfl, below_drew _⟩
      · rw [if_neg hlast]
        simp only [if_neg hlast] at HCS
        have hnn := fun W => name_any (ba nm) (by rw [ba_size]; omega) W
        unfold BoolP at hnn
        rw [ba_list] at hnn
        obtain ⟨b, hb⟩ : ∃ b, nameB nm = b := ⟨_, rfl⟩
        rw [hb] at hnn
        rw [hb]
        have HNN := Lib.hid hnn
        clear hnn hb h47 hlast
        cases b
        all_goals
          go_enter Try.func32, Try.ntmps32
          go_wp2_with fail
          refine (HI.out _).mono ?_
          rintro e w1 ⟨rfl, rfl⟩
          go_wp2
          go_region
          rw [HCUT.out]
          go_wp2_with fail
          refine (HCP.out _).mono ?_
          rintro e w1 ⟨rfl, rfl⟩
          go_wp2_with fail
          refine (HCS.out _).mono ?_
          rintro e w1 ⟨rfl, rfl⟩
          go_wp2_with fail
          refine (HNN.out _).mono ?_
          rintro e w1 ⟨rfl, rfl⟩
          go_wp2
          go_ret3
          exact ⟨rfl, below_drew _⟩
end Go.Proofs.Ytpjafemkdoeflaa
