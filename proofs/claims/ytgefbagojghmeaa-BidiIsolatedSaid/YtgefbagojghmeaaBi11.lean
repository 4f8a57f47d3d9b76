/-
  bidi's levels and Levels.
-/
import Derived.Test.YtgefbagojghmeaaBi10
import Derived.Laws.EntriesVeiled
namespace Go.Proofs.Ytgefbagojghmeaa
open Go.RowKit

/-- The levels of a text. -/
def lev (xs : List Int) (e : Int) : List Int := fillF xs (xs.length + 1) 0 xs.length e (List.replicate xs.length 0)
theorem lev_len (xs : List Int) (e : Int) : (lev xs e).length = xs.length := by unfold lev; rw [fillF_len, List.length_replicate]

theorem four_blocks (w : World) (A B C D : Obj) : ((((w.alloc A).alloc B).alloc C).alloc D).heap[w.heap.size]? = some A ∧ ((((w.alloc A).alloc B).alloc C).alloc D).heap[w.heap.size + 1]? = some B ∧ ((((w.alloc A).alloc B).alloc C).alloc D).heap[w.heap.size + 1 + 1]? = some C ∧ ((((w.alloc A).alloc B).alloc C).alloc D).heap[w.heap.size + 1 + 1 + 1]? = some D ∧ Below w.heap.size w ((((w.alloc A).alloc B).alloc C).alloc D) := by
  have s1 : (w.alloc A).heap.size = w.heap.size + 1 := by simp
  have s2 : ((w.alloc A).alloc B).heap.size = w.heap.size + 1 + 1 := by simp
  have s3 : (((w.alloc A).alloc B).alloc C).heap.size = w.heap.size + 1 + 1 + 1 := by simp
  refine ⟨?_, ?_, ?_, ?_, ?_⟩
  · rw [Lib.alloc_old _ _ _ (by omega), Lib.alloc_old _ _ _ (by omega), Lib.alloc_old _ _ _ (by omega)]
    exact heap_alloc_new w A
  · rw [Lib.alloc_old _ _ _ (by omega), Lib.alloc_old _ _ _ (by omega), ← s1]
    exact heap_alloc_new _ B
  · rw [Lib.alloc_old _ _ _ (by omega), ← s2]
    exact heap_alloc_new _ C
  · rw [← s3]
    exact heap_alloc_new _ D
  · exact ((((Below.refl _ _).alloc (Nat.le_refl _) _).alloc (by omega) _).alloc (by omega) _).alloc (by omega) _

set_option maxRecDepth 100000 in
set_option maxHeartbeats 4000000 in
theorem tlevels_any (v : Value) (xs : List Int) (B : Nat) (rtl : Bool) (w : World) (hv : IsText w B v xs) (hB : B ≤ w.heap.size) (hx : xs.length ≤ 400) :
    Calls Try.prog 38 #[v, .bool rtl] w fun x w' => ∃ r, x = .returned r ∧ w'.ownsRow w.heap.size 3 1 r xs.length ((lev xs (if rtl then 1 else 0)).map (Value.int .i64)) ∧ Below w.heap.size w w' := by
  have hvv := hv
  obtain ⟨lv, ev, rfl, ⟨ao, ca, rfl, hl⟩, ⟨aoe, cae, rfl, he⟩⟩ := hv
  have hlen := (rdRun_ok xs.length xs).1
  rw [hlen] at hvv
  rw [hlen]
  have hbel := fun (W : World) (h : Below B w W) => (show IsText W B _ xs from by
    obtain ⟨lv, ev, h1, h2, h3⟩ := hvv
    exact ⟨lv, ev, h1, h2.below h, h3.below h⟩)
  have hsq := fun e pt po ps g (hg : B ≤ g) h1 h2 h3 W h4 h5 h6 (h7 : e ≤ 1) => seq_any xs B g pt po ps ao ca aoe cae hx hg h1 h2 h3 xs.length 0 xs.length e (List.replicate xs.length 0) W (by omega) (Nat.zero_le _) (Nat.le_refl _) (shut_all xs) (by omega) (List.length_replicate ..) h4 h5 h6
  unfold FillP at hsq
  have hmk := run_make_row' (P := Try.prog) 24 3 (.int .i64 0) 8 Try.underlying24 Try.infoInt rfl .i64 .i64 xs.length (by omega) (by omega)
  have hmf : ∀ (fn : Fn) (first cap : Array Value) (w : World), (Instr.makeFunc fn first cap).run Try.prog w = .ok (.func fn first cap) w := fun _ _ _ _ => rfl
  obtain ⟨n, hn⟩ : ∃ n, n = xs.length := ⟨_, rfl⟩
  obtain ⟨DD, hDD⟩ : ∃ DD : Nat, (rdRun xs.length xs).2.2 = DD := ⟨_, rfl⟩
  unfold lev
  simp only [hDD] at hsq hbel
  rw [hDD]
  simp only [← hn] at hsq hbel hmk
  rw [← hn]
  have hn4 : n ≤ 400 := by omega
  have HSQ := Lib.hid hsq
  have HBEL := Lib.hid hbel
  have Hn := Lib.hid hn
  clear hsq hbel hn hDD hvv hl he hlen
  have hfour := four_blocks w (.cells #[.slice ao n ca, .slice aoe n cae, .int .i64 DD] 49) (.cells (madeCells #[.int .i64 0] n) 3) (.cells #[.slice (some ⟨w.heap.size + 1, 0, none⟩) n n] 24) (.cells #[.func (.func 51) #[] #[.pointer (some ⟨w.heap.size, 0, none⟩), .pointer (some ⟨w.heap.size + 1 + 1, 0, none⟩), .pointer (some ⟨w.heap.size + 1 + 1 + 1, 0, none⟩)]] 70)
  obtain ⟨b1, b2, b3, b4, b5⟩ := hfour
  have hseq : SeqW (w.heap.size + 1) w.heap.size (w.heap.size + 1 + 1) (w.heap.size + 1 + 1 + 1) n ao ca aoe cae DD _ := ⟨b1, b3, b4⟩
  have d5 := b5
  have d2 := b2
  rw [made_zero] at d2
  have hrow : RowW (w.heap.size + 1) _ (List.replicate n 0) := d2
  rw [← made_zero] at hrow
  have htx := HBEL.out _ (d5.mono hB)
  obtain ⟨t0, t1, t2⟩ := hseq.ct
  have t3 := hseq.cq
  have hq0 := HSQ.out 0 w.heap.size (w.heap.size + 1 + 1) (w.heap.size + 1 + 1 + 1) (w.heap.size + 1) (by omega) (by omega) (by omega) (by omega) _ htx hseq hrow (by omega)
  have hq1 := HSQ.out 1 w.heap.size (w.heap.size + 1 + 1) (w.heap.size + 1 + 1 + 1) (w.heap.size + 1) (by omega) (by omega) (by omega) (by omega) _ htx hseq hrow (by omega)
  have HQ0 := Lib.hid hq0
  have HQ1 := Lib.hid hq1
  have HSEQ := Lib.hid hseq
  have HD5 := Lib.hid d5
  clear b1 b2 b3 b4 b5 d2 d5 hseq hrow htx hq0 hq1
  have fin : ∀ (e : Int) (w5 : World), RowW (w.heap.size + 1) w5 (fillF xs (n - 0 + 1) 0 n e (List.replicate n 0)) → w5.ownsRow w.heap.size 3 1 (.slice (some ⟨w.heap.size + 1, 0, none⟩) n n) n ((fillF xs (n + 1) 0 n e (List.replicate n 0)).map (Value.int .i64)) := by
    intro e w5 h
    have hl : (fillF xs (n + 1) 0 n e (List.replicate n 0)).length = n := by rw [fillF_len, List.length_replicate]
    refine ⟨by rw [List.length_map, hl, Nat.mul_one], .inr ⟨w.heap.size + 1, n, _, rfl, by omega, h, Nat.le_refl _, by unfold maxLen; omega, by simp [hl], ?_⟩⟩
    rw [Nat.mul_one]
    show ((fillF xs (n + 1) 0 n e (List.replicate n 0)).map (Value.int .i64)).take n = _
    rw [List.take_of_length_le (by rw [List.length_map, hl]; exact Nat.le_refl _)]
  have FIN := Lib.hid fin
  clear fin
  cases rtl
  · go_enter Try.func38, Try.ntmps38
    go_wp2_with (go_at_call 51; refine HQ0.out.mono ?_; rintro ex w5 ⟨rfl, hr5, hg5⟩; have t4 := (HSEQ.out.grown hg5 (by omega) (by omega) (by omega)).co)

    go_ret
    exact ⟨_, rfl, FIN.out 0 _ hr5, HD5.out.trans (grown_below hg5 (by omega) (by have := HD5.out.size; have := (HSEQ.out).lt; omega))⟩
  · go_enter Try.func38, Try.ntmps38
    go_wp2_with (go_at_call 51; refine HQ1.out.mono ?_; rintro ex w5 ⟨rfl, hr5, hg5⟩; have t4 := (HSEQ.out.grown hg5 (by omega) (by omega) (by omega)).co)
    go_ret
    exact ⟨_, rfl, FIN.out 1 _ hr5, HD5.out.trans (grown_below hg5 (by omega) (by have := HD5.out.size; have := (HSEQ.out).lt; omega))⟩
end Go.Proofs.Ytgefbagojghmeaa
