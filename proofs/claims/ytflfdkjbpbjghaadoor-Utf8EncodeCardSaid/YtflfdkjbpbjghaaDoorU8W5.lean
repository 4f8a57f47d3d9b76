/-
  utf8.At: the position with an offset, or the error of the range.
-/
import Derived.Test.YtflfdkjbpbjghaaDoorU8W4
namespace Go.Proofs.YtflfdkjbpbjghaaDoor
open Go.RowKit Go.Shelf Rf
attribute [local go_sem] Oper.semAt_some

theorem yield_any {m k : Nat} {P : Program} {l : Nat} {args : Array Value} {W : World} {R : Ending → World → Prop} (h : YieldAt Fence.wide m P l args W R) : YieldAt Fence.wide k P l args W R := by
  obtain ⟨fn, tmps, assign, body, hy, hr⟩ := h
  exact ⟨fn, tmps, assign, body, hy, hr.1, fun c cs _ => hr.2 c cs (room_wide _)⟩

/-- The two closures: they load the string out of its box and hand their own yield on. -/
theorem at1_iter (n : Nat) (hn : 3 ≤ n) (b : Nat) (s : ByteArray) (hs : s.size ≤ 4611686018427387904) (w : World)
    (hb : w.heap[b]? = some (.cells #[.string s] 9 (0, 0))) : Iter Fence.wide n Tryd.prog 25 #[.pointer (some ⟨b, 0, none⟩)] encP (U8.poss s.data.toList) w := by
  intro l J Jx W hW hJ hJx hY h0
  have hc : W.cell? ⟨b, 0, none⟩ = some (.string s) := row_cell ((hW.block b (heap_lt hb)).trans hb) 0
  have h1 : 1 ≤ n := by omega
  have hw := walk_yields Fence.wide (n - 1) trivial rfl (by omega) l s hs J Jx W hJ (fun pre x A hA hp => yield_any (hY pre x A hA hp)) h0
  have HW := Lib.hid hw
  clear hw hY hJ hJx h0 hW hb
  have hfw : Fence.wide.fn 26 := trivial
  refine callsIn_of_wp Tryd.func25 rfl trivial ?_ rfl
  simp only [Tryd.ntmps25, List.size_toArray, List.length_cons, List.length_nil, Nat.reduceAdd, Nat.reduceSub, Array.replicate_succ, Array.replicate_zero, List.push_toArray, List.append_toArray, List.nil_append, List.cons_append]
  gi_wp2_with (gi_at_call 26; refine HW.out.mono ?_; rintro e W1 ⟨⟨v, rfl⟩, hq⟩; have HQ := Lib.hid hq; clear hq)
  go_end0
  exact ⟨⟨_, rfl⟩, Hid.out ‹_›⟩
theorem kept_set {D : Nat} (W : World) (b i : Nat) (u : Value) (hb : b < D) : Kept D W (W.setCell ⟨b, i, none⟩ u) :=
  ⟨by simp [World.setCell], fun k hk _ => Below.heap_setCell W ⟨b, i, none⟩ u k (fun e => by simp at e; omega)⟩
/-- What At answers. -/
def posV (p : U8.Pos) : Value := .agg #[.int .i64 p.1, .int .i64 p.2.1, .int .i64 p.2.2]
def atV : Option U8.Pos → Value
  | some p => .tuple #[posV p, .int .i64 0]
  | none => .tuple #[posV (0, 0, 0), .int .i64 2]
def AtP (s : ByteArray) (off : Int) (w : World) (e : Ending) (w' : World) : Prop := e = .returned (atV (U8.atS s.data.toList off)) ∧ Below w.heap.size w w'

set_option maxRecDepth 100000 in
set_option maxHeartbeats 2000000 in
theorem at_any (s : ByteArray) (hs : s.size ≤ 4611686018427387904) (off : Int) (w : World) : Calls Tryd.prog 17 #[.string s, .int .i64 off] w (AtP s off w) := by
  refine (callsIn_wide (n := 6)).1 ?_
  have h1 : 1 ≤ 6 := by omega
  refine callsIn_of_wp_marks Tryd.func17 rfl trivial ?_ rfl
  simp only [Tryd.ntmps17, List.size_toArray, List.length_cons, List.length_nil, Nat.reduceAdd, Nat.reduceSub, Array.replicate_succ, Array.replicate_zero, List.push_toArray, List.append_toArray, List.nil_append, List.cons_append]
  gi_wp2
  obtain ⟨B, hB⟩ : ∃ B, B = w.heap.size := ⟨_, rfl⟩
  obtain ⟨W0, hW0⟩ : ∃ W0, (((w.alloc (.cells #[.string s] 9)).alloc (.cells #[.int .i64 off] 3)).alloc (.cells #[.int .i64 0, .int .i64 0, .int .i64 0] 33)).alloc (.cells #[.int .i64 0] 34) = W0 := ⟨_, rfl⟩
  rw [hW0, ← hB]
  have hz : W0.heap.size = B + 4 := by rw [← hW0, hB]; simp
  have hb0 : W0.heap[B]? = some (.cells #[.string s] 9 (0, 0)) := by
    rw [← hW0, hB]; exact (Below.heap_alloc _ _ _ (by simp; omega)).trans ((Below.heap_alloc _ _ _ (by simp; omega)).trans ((Below.heap_alloc _ _ _ (by simp)).trans (heap_alloc_new _ _)))
  have hb1 : W0.heap[B + 1]? = some (.cells #[.int .i64 off] 3 (0, 0)) := by
    rw [← hW0, hB]; refine (Below.heap_alloc _ _ _ (by simp)).trans ((Below.heap_alloc _ _ _ (by simp)).trans ?_); have := heap_alloc_new (w.alloc (.cells #[.string s] 9)) (.cells #[.int .i64 off] 3); rwa [World.size_alloc] at this
  have hb2 : W0.heap[B + 2]? = some (.cells #[.int .i64 0, .int .i64 0, .int .i64 0] 33 (0, 0)) := by
    rw [← hW0, hB]; refine (Below.heap_alloc _ _ _ (by simp)).trans ?_; have := heap_alloc_new ((w.alloc (.cells #[.string s] 9)).alloc (.cells #[.int .i64 off] 3)) (.cells #[.int .i64 0, .int .i64 0, .int .i64 0] 33); simpa using this
  have hb3 : W0.heap[B + 3]? = some (.cells #[.int .i64 0] 34 (0, 0)) := by
    rw [← hW0, hB]; have := heap_alloc_new (((w.alloc (.cells #[.string s] 9)).alloc (.cells #[.int .i64 off] 3)).alloc (.cells #[.int .i64 0, .int .i64 0, .int .i64 0] 33)) (.cells #[.int .i64 0] 34); simpa using this
  have hbel : Below B w W0 := by rw [← hW0, hB]; exact ((((Below.refl _ w).alloc (Nat.le_refl _) _).alloc (by simp) _).alloc (by simp; omega) _).alloc (by simp; omega) _
  clear hW0
  have HB := Lib.hid hB
  clear hB
  refine range_mine (L := U8.poss s.data.toList) rfl h1 (gf := 25) (lb := #[.pointer (some ⟨B, 0, none⟩)]) rfl trivial (enters_of Tryd.func25 (by kernel_rfl) rfl)
    (at1_iter 5 (by omega) B s hs W0 hb0) (Below.refl _ _) (fun _ => rfl)
    (fun pre W => W.heap[B + 1]? = some (.cells #[.int .i64 off] 3 (0, 0)) ∧ W.heap[B + 2]? = some (.cells #[.int .i64 0, .int .i64 0, .int .i64 0] 33 (0, 0)) ∧ W.heap[B + 3]? = some (.cells #[.int .i64 0] 34 (0, 0)) ∧ Below B w W ∧ ∀ q ∈ pre, ((q.1 : Int) == off) = false)
    (fun pre W => ∃ pr p, pre = pr ++ [p] ∧ (∀ q ∈ pr, ((q.1 : Int) == off) = false) ∧ ((p.1 : Int) == off) = true ∧ W.heap[B + 2]? = some (.cells #[.int .i64 p.1, .int .i64 p.2.1, .int .i64 p.2.2] 33 (0, 0)) ∧ W.heap[B + 3]? = some (.cells #[.int .i64 0] 34 (0, 0)) ∧ Below B w W)
    ?_ ?_ ⟨hb1, hb2, hb3, hbel, by simp⟩
    (fun x a' W => ∃ Bx, B + 4 ≤ Bx ∧ W.heap[Bx]? = some (.cells #[.int .i64 x.1, .int .i64 x.2.1, .int .i64 x.2.2] 33 (0, 0)) ∧ a' = { tmps := #[.string s, .int .i64 off, .pointer (some ⟨B, 0, none⟩), .pointer (some ⟨B + 1, 0, none⟩), .pointer (some ⟨B + 1 + 1, 0, none⟩), .pointer (some ⟨B + 1 + 1 + 1, 0, none⟩), .pointer (some ⟨Bx, 0, none⟩), .func (.func 25) #[] #[.pointer (some ⟨B, 0, none⟩)], posV x, undef, undef, undef, undef, undef, undef], defers := [] })
    ?_ ?assign ?body ?done ?stop
  · rintro pre A A' row ⟨h1, h2, h3, h4, h5⟩ hg hr
    have far : ∀ {k : Nat} {o : Obj}, k < B + 4 → A.heap[k]? = some o → A'.heap[k]? = some o := fun hk ho => (hg.block _ (heap_lt ho) (fun e => by have := hr _ e.symm; omega)).trans ho
    exact ⟨far (by omega) h1, far (by omega) h2, far (by omega) h3, h4.grown hg (by have := heap_lt h3; omega) (fun r e => by have := hr r e; omega), h5⟩
  · rintro pre A A' row ⟨pr, p, rfl, h1, h2, h3, h4, h5⟩ hg hr
    have far : ∀ {k : Nat} {o : Obj}, k < B + 4 → A.heap[k]? = some o → A'.heap[k]? = some o := fun hk ho => (hg.block _ (heap_lt ho) (fun e => by have := hr _ e.symm; omega)).trans ho
    exact ⟨pr, p, rfl, h1, h2, far (by omega) h3, far (by omega) h4, h5.grown hg (by have := heap_lt h4; omega) (fun r e => by have := hr r e; omega)⟩
  · rintro x a' u A A' row ⟨Bx, h1, h2, h3⟩ hg hr
    refine ⟨Bx, h1, (hg.block _ (heap_lt h2) (fun e => ?_)).trans h2, h3⟩
    obtain ⟨_, o, ho, hc⟩ := hr _ e.symm
    rw [h2] at ho
    cases ho
    cases hc
  case assign =>
    intro l pre x W K hI hK
    unfold encP
    have HI := Lib.hid hI
    clear hI
    gi_wp2
    obtain ⟨i1, i2, i3, i4, i5⟩ := HI.out
    have hsz := heap_lt i3
    refine hK _ _ ⟨by simp, fun k _ hk => Below.heap_alloc _ _ _ hk⟩ ⟨(Below.heap_alloc _ _ _ (by omega)).trans i1, (Below.heap_alloc _ _ _ (by omega)).trans i2, (Below.heap_alloc _ _ _ (by omega)).trans i3, i4.alloc (by omega) _, i5⟩ ⟨W.heap.size, by omega, heap_alloc_new _ _, rfl⟩
  case body =>
    rintro l pre x a' W ⟨i1, i2, i3, i4, i5⟩ ⟨Bx, hBx, hbx, rfl⟩ hpre
    have c0 := row_cell hbx 0
    have c1 := row_cell hbx 1
    have c2 := row_cell hbx 2
    have d0 := row_cell i1 0
    have e0 := row_cell i2 0
    have e1 := row_cell i2 1
    have e2 := row_cell i2 2
    have f0 := row_cell i3 0
    have g0 := row_free i2 0
    have g1 := row_free i2 1
    have g2 := row_free i2 2
    have k0 := row_free i3 0
    simp only [List.getElem?_toArray, List.getElem?_cons_zero, List.getElem?_cons_succ] at c0 c1 c2 d0 e0 e1 e2 f0
    have H1 := Lib.hid i1
    have H2 := Lib.hid i2
    have H3 := Lib.hid i3
    have H5 := Lib.hid i5
    have HP := Lib.hid hpre
    clear i1 i2 i3 i5 hpre hbx
    by_cases hx : ((x.1 : Int) == off) = true
    · gi_wp2
      have q2 := row_set (row_set (row_set H2.out 0 (.int .i64 x.1)) 1 (.int .i64 x.2.1)) 2 (.int .i64 x.2.2)
      simp only [List.setIfInBounds_toArray, List.set_cons_zero, List.set_cons_succ] at q2
      have q3 := (Below.heap_setCell _ ⟨B + 2, 2, none⟩ (.int .i64 x.2.2) (B + 3) (by simp)).trans ((Below.heap_setCell _ ⟨B + 2, 1, none⟩ (.int .i64 x.2.1) (B + 3) (by simp)).trans ((Below.heap_setCell _ ⟨B + 2, 0, none⟩ (.int .i64 x.1) (B + 3) (by simp)).trans H3.out))
      have q4 := row_set q3 0 (.int .i64 0)
      simp only [List.setIfInBounds_toArray, List.set_cons_zero] at q4
      refine ⟨(((kept_set _ _ _ _ (by omega)).trans (kept_set _ _ _ _ (by omega))).trans (kept_set _ _ _ _ (by omega))).trans (kept_set _ _ _ _ (by omega)), pre, x, rfl, H5.out, hx, (Below.heap_setCell _ ⟨B + 3, 0, none⟩ (.int .i64 0) (B + 2) (by simp)).trans q2, q4, ?_⟩
      exact (((i4.setCell (p := ⟨B + 1 + 1, 0, none⟩) (by simp; omega) _).setCell (p := ⟨B + 1 + 1, 1, none⟩) (by simp; omega) _).setCell (p := ⟨B + 1 + 1, 2, none⟩) (by simp; omega) _).setCell (p := ⟨B + 1 + 1 + 1, 0, none⟩) (by simp; omega) _
    · have hx0 : ((x.1 : Int) == off) = false := by simpa using hx
      have HX := Lib.hid hx0
      clear hx
      gi_wp2
      refine ⟨Kept.refl _ _, H1.out, H2.out, H3.out, i4, fun q hq => ?_⟩
      rcases List.mem_append.1 hq with hq | hq
      · exact H5.out q hq
      · rw [List.mem_singleton.1 hq]; exact HX.out
  case done =>
    rintro D W hD ⟨i1, i2, i3, i4, i5⟩ hK
    have e0 := row_cell i2 0
    have e1 := row_cell i2 1
    have e2 := row_cell i2 2
    have f0 := row_cell i3 0
    have g0 := row_free i2 0
    have g1 := row_free i2 1
    have g2 := row_free i2 2
    have k0 := row_free i3 0
    simp only [List.getElem?_toArray, List.getElem?_cons_zero, List.getElem?_cons_succ] at e0 e1 e2 f0
    have H2 := Lib.hid i2
    have H3 := Lib.hid i3
    have H5 := Lib.hid i5
    have HK := Lib.hid hK
    clear i1 i2 i3 i5 hK
    gi_wp2
    have q2 := row_set (row_set (row_set H2.out 0 (.int .i64 0)) 1 (.int .i64 0)) 2 (.int .i64 0)
    simp only [List.setIfInBounds_toArray, List.set_cons_zero, List.set_cons_succ] at q2
    have q3 := (Below.heap_setCell _ ⟨B + 2, 2, none⟩ (.int .i64 0) (B + 3) (by simp)).trans ((Below.heap_setCell _ ⟨B + 2, 1, none⟩ (.int .i64 0) (B + 3) (by simp)).trans ((Below.heap_setCell _ ⟨B + 2, 0, none⟩ (.int .i64 0) (B + 3) (by simp)).trans H3.out))
    have q4 := row_set q3 0 (.int .i64 2)
    simp only [List.setIfInBounds_toArray, List.set_cons_zero] at q4
    replace q2 := (Below.heap_setCell _ ⟨B + 3, 0, none⟩ (.int .i64 2) (B + 2) (by simp)).trans q2
    have qb := (((i4.setCell (p := ⟨B + 2, 0, none⟩) (by simp) (.int .i64 0)).setCell (p := ⟨B + 2, 1, none⟩) (by simp) (.int .i64 0)).setCell (p := ⟨B + 2, 2, none⟩) (by simp) (.int .i64 0)).setCell (p := ⟨B + 3, 0, none⟩) (by simp) (.int .i64 2)
    have qk := (Below.heap_setCell _ ⟨B + 3, 0, none⟩ (.int .i64 2) D (by simp; omega)).trans ((Below.heap_setCell _ ⟨B + 2, 2, none⟩ (.int .i64 0) D (by simp; omega)).trans ((Below.heap_setCell _ ⟨B + 2, 1, none⟩ (.int .i64 0) D (by simp; omega)).trans ((Below.heap_setCell _ ⟨B + 2, 0, none⟩ (.int .i64 0) D (by simp; omega)).trans HK.out)))
    refine ⟨by simp, .inl ⟨_, _, rfl, run_takeDeferred qk, ?_⟩⟩
    have r2 := (World.putObj_heap_other (o := .deferred none) (r := D) (k := B + 2) (by omega)).trans q2
    have r3 := (World.putObj_heap_other (o := .deferred none) (r := D) (k := B + 3) (by omega)).trans q4
    have y0 := row_cell r2 0
    have y1 := row_cell r2 1
    have y2 := row_cell r2 2
    have y3 := row_cell r3 0
    simp only [List.getElem?_toArray, List.getElem?_cons_zero, List.getElem?_cons_succ] at y0 y1 y2 y3
    refine ⟨atV none, ?_, ?_, ?_⟩
    · simp [results, Tryd.f17, go_sem, y0, y1, y2, y3, atV, posV]
    · unfold U8.atS
      rw [U8.find_none H5.out]
    · have := qb.trans (belowK_b (w := w) (n₀ := B) (by rw [← HB.out]; exact Nat.le_refl _) _ D _ (.deferred none) (by rw [← HB.out]; omega) qk rfl rfl)
      rw [← HB.out]
      exact this
  case stop =>
    rintro D pre W hD hpre ⟨pr, p, rfl, h1, h2, h3, h4, h5⟩ hK
    gi_wp2
    refine ⟨by simp, .inl ⟨_, _, rfl, run_takeDeferred hK, ?_⟩⟩
    have r2 := (World.putObj_heap_other (o := .deferred none) (r := D) (k := B + 2) (by omega)).trans h3
    have r3 := (World.putObj_heap_other (o := .deferred none) (r := D) (k := B + 3) (by omega)).trans h4
    have y0 := row_cell r2 0
    have y1 := row_cell r2 1
    have y2 := row_cell r2 2
    have y3 := row_cell r3 0
    simp only [List.getElem?_toArray, List.getElem?_cons_zero, List.getElem?_cons_succ] at y0 y1 y2 y3
    refine ⟨atV (some p), ?_, ?_, ?_⟩
    · simp [results, Tryd.f17, go_sem, y0, y1, y2, y3, atV, posV]
    · obtain ⟨rest, hrest⟩ := hpre
      have : U8.atS s.data.toList off = some p := U8.find_pre (pre := pr) (rest := rest) (x := p) (by rw [← hrest]; simp) h1 h2
      rw [this]
    · have := h5.trans (belowK_b (w := w) (n₀ := B) (by rw [← HB.out]; exact Nat.le_refl _) W D _ (.deferred none) (by rw [← HB.out]; omega) hK rfl rfl)
      rw [← HB.out]
      exact this
end Go.Proofs.YtflfdkjbpbjghaaDoor
