/-
  calquelaw25.own: tokens of the program as those of the reference. calqueref25.Same: whether two lists of tokens are the same.
-/
import Derived.Test.YtpjafemkdoeflaaTkR
namespace Go.Proofs.Ytpjafemkdoeflaa
open Go.RowKit

set_option maxRecDepth 100000 in
set_option maxHeartbeats 4000000 in
theorem own_any (v : Value) (ts : List Tok) (B : Nat) (w : World) (hv : IsToks w B v ts) (hB : B ≤ w.heap.size) (hl : ts.length ≤ 1000000) :
    Calls Try.prog 12 #[v] w fun e w' => ∃ r, e = .returned r ∧ w'.ownsRow w.heap.size 36 4 r ts.length (flatT ts) ∧ Below w.heap.size w w' := by
  obtain ⟨j0, hj, hy0, hy1, hy2⟩ := info_parts Try.infoTokR
  obtain ⟨ao, ca, rfl, hc⟩ := hv
  obtain ⟨n, hn⟩ : ∃ n, n = ts.length := ⟨_, rfl⟩
  rw [← hn] at hc hl
  rw [← hn]
  have HC := Lib.hid hc
  have HN := Lib.hid hn
  obtain ⟨T, hT⟩ : ∃ T, T = w.heap.size := ⟨_, rfl⟩
  have HT := Lib.hid hT
  rw [← hT]
  clear hc hn hT
  go_enter Try.func12, Try.ntmps12
  go_wp2
  go_loopw [3, 4] (fun ov iv wr => ∃ k : Nat, k ≤ n ∧ iv = .int .i64 k ∧ wr.ownsRow T 36 4 ov k (flatT (ts.take k)) ∧ Below T w wr) (fun _ iv _ => n - (intOf iv).toNat)
  case atStart => exact ⟨0, Nat.zero_le _, rfl, World.ownsRow_nil _ _ _ _, Below.refl _ _⟩
  case round =>
    obtain ⟨k, hk, rfl, hown, hb⟩ := hrel
    have k0 : (0 : Int) ≤ (k : Int) := by omega
    by_cases hlt : k < n
    · obtain ⟨b, o, rfl, hbB, hcl⟩ := HC.out (by omega)
      have hkl : k < ts.length := by have := HN.out; omega
      obtain ⟨x, hx⟩ : ∃ x, ts[k] = x := ⟨_, rfl⟩
      have hx' : ts[k]? = some x := by rw [List.getElem?_eq_getElem hkl, hx]
      obtain ⟨d0, d1, d2, d3⟩ := hcl k x hx'
      have hbT : b < T := by have := HT.out; omega
      have c0 := (hb.cell (p := ⟨b, o + k * 4, none⟩) hbT).trans d0
      have c1 := (hb.cell (p := ⟨b, o + k * 4 + 1, none⟩) hbT).trans d1
      have c2 := (hb.cell (p := ⟨b, o + k * 4 + 2, none⟩) hbT).trans d2
      have c3 := (hb.cell (p := ⟨b, o + k * 4 + 3, none⟩) hbT).trans d3
      have htk : flatT (ts.take (k + 1)) = flatT (ts.take k) ++ cellsT x := by rw [List.take_succ_eq_append_getElem hkl, hx, flatT_one]
      obtain ⟨x0, x1, x2, x3⟩ := x
      dsimp only at c0 c1 c2 c3
      have k1 : (k : Int) < (n : Int) := by omega
      have HTK := Lib.hid htk
      have HO := Lib.hid hown
      have HBW := Lib.hid hb
      have hTs : T ≤ wr.heap.size := by rw [HT.out]; exact hb.size
      clear hcl d0 d1 d2 d3 hx hx' htk hb hbB
      go_wp2_with (at_builtin; refine wpList_append_own _ rfl _ _ 27 rfl T 36 j0 (.agg #[.int .i64 0, .string ⟨#[]⟩, .int .i64 0, .int .i64 0]) 4 40 Try.underlying27 hj hy0 hy1 hy2 rfl (by decide) _ _ _ rfl (hown.alloc _) ⟨wr.heap.size, 0, none⟩ 1 1 [.int .i64 x0, .string (ba x1), .int .i64 x2, .int .i64 x3] rfl rfl (cell_four_new _ _ _ _ _ _) (by intro u hu; simp at hu; rcases hu with rfl | rfl | rfl | rfl <;> rfl) (by unfold maxLen; omega) (by omega) (by simp; omega) ?_; intro v' w6 hE2 hg2 hg3)
      have hb6 : Below T w w6 := (HBW.out.alloc (by have := HT.out; omega) _).grown hg2 (by have := HT.out; simp; omega) (fun j e => (HO.out.lt j e).1)
      have HE6 := Lib.hid hE2
      have HB6 := Lib.hid hb6
      clear hE2 hg2 hg3 hb6 hown
      go_wp2
      go_roundw
      case rel => exact ⟨k + 1, by omega, by go_num, by rw [HTK.out]; exact HE6.out, HB6.out⟩
      case measure => simp [intOf] <;> omega
    · have hkn : k = n := by omega
      have k1 : (n : Int) ≤ (k : Int) := by omega
      have htk : ts.take k = ts := List.take_of_length_le (by have := HN.out; omega)
      rw [htk, hkn] at hown
      have HO := Lib.hid hown
      have HBW := Lib.hid hb
      clear hown hb htk hkn
      go_wp2
      go_ret
      exact ⟨_, rfl, HO.out, HBW.out⟩
/-- Equal up to places, or wholly. -/
def SameT (pl : Bool) (a b : List Tok) : Prop := a.length = b.length ∧ ∀ (i : Nat) (x y : Tok), a[i]? = some x → b[i]? = some y → x.1 = y.1 ∧ x.2.1 = y.2.1 ∧ (pl = true → x = y)

set_option maxRecDepth 100000 in
set_option maxHeartbeats 4000000 in
theorem sameT_any (v u : Value) (a b : List Tok) (pl : Bool) (B : Nat) (w : World) (hv : IsToks w B v a) (hu : IsToks w B u b) (hs : SameT pl a b) (hl : a.length ≤ 1000000) :
    Calls Try.prog 11 #[v, u, .bool pl] w fun e w' => e = .returned (.bool true) ∧ Below w.heap.size w w' := by
  obtain ⟨ao, ca, rfl, hc⟩ := hv
  obtain ⟨bo, cb, rfl, hd⟩ := hu
  obtain ⟨hlen, heq⟩ := hs
  obtain ⟨n, hn⟩ : ∃ n, n = a.length := ⟨_, rfl⟩
  rw [← hlen] at hd
  rw [← hn] at hc hl hd hlen
  rw [← hlen, ← hn]
  have HC := Lib.hid hc
  have HD := Lib.hid hd
  have HN := Lib.hid hn
  have HL := Lib.hid hlen
  have HEQ := Lib.hid heq
  clear hc hd hn hlen heq
  go_enter Try.func11, Try.ntmps11
  go_wp2
  go_loopw [7] (fun iv wr => ∃ k : Nat, k ≤ n ∧ iv = .int .i64 k ∧ wr.heap = w.heap ∧ Below w.heap.size w wr) (fun iv _ => n - (intOf iv).toNat)
  case atStart => exact ⟨0, Nat.zero_le _, rfl, rfl, Below.refl _ _⟩
  case round =>
    obtain ⟨k, hk, rfl, hheap, hb⟩ := hrel
    have k0 : (0 : Int) ≤ (k : Int) := by omega
    by_cases hlt : k < n
    · obtain ⟨b1, o1, rfl, _, hcl⟩ := HC.out (by omega)
      obtain ⟨b2, o2, rfl, _, hdl⟩ := HD.out (by omega)
      have hcell : ∀ p, wr.cell? p = w.cell? p := fun p => by unfold World.cell?; rw [hheap]
      have hkl : k < a.length := by have := HN.out; omega
      have hkl2 : k < b.length := by have := HL.out; omega
      obtain ⟨x, hx⟩ : ∃ x, a[k] = x := ⟨_, rfl⟩
      have hx' : a[k]? = some x := by rw [List.getElem?_eq_getElem hkl, hx]
      obtain ⟨y, hy⟩ : ∃ y, b[k] = y := ⟨_, rfl⟩
      have hy' : b[k]? = some y := by rw [List.getElem?_eq_getElem hkl2, hy]
      obtain ⟨e0, e1, e2⟩ := HEQ.out k x y hx' hy'
      obtain ⟨c0, c1, c2, c3⟩ := hcl k x hx'
      obtain ⟨d0, d1, d2, d3⟩ := hdl k y hy'
      rw [← hcell] at c0 c1 c2 c3 d0 d1 d2 d3
      obtain ⟨x0, x1, x2, x3⟩ := x
      obtain ⟨y0, y1, y2, y3⟩ := y
      dsimp only at c0 c1 c2 c3 d0 d1 d2 d3 e0 e1
      subst e0 e1
      have k1 : (k : Int) < (n : Int) := by omega
      have HB := Lib.hid hb
      have HH := Lib.hid hheap
      clear hcl hdl hx hx' hy hy' hcell hb hheap
      cases pl with
      | false =>
        clear e2
        go_wp2
        go_region
        go_wp2
        go_roundw
        case rel => exact ⟨k + 1, by omega, by go_num, HH.out, ⟨HB.out.os, HB.out.tape, HB.out.output, HB.out.size, HB.out.block⟩⟩
        case measure => simp [intOf] <;> omega
      | true =>
        have e2 := e2 rfl
        cases e2
        go_wp2
        go_region
        go_wp2
        go_roundw
        case rel => exact ⟨k + 1, by omega, by go_num, HH.out, ⟨HB.out.os, HB.out.tape, HB.out.output, HB.out.size, HB.out.block⟩⟩
        case measure => simp [intOf] <;> omega
    · have k1 : (n : Int) ≤ (k : Int) := by omega
      go_wp2
      go_ret
      exact ⟨rfl, hb⟩
end Go.Proofs.Ytpjafemkdoeflaa
