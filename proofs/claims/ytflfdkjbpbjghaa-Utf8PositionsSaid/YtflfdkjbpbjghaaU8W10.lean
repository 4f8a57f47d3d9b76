/-
  utf8.Offset: the first boundary with a line and a column, or the error of what does not exist.
-/
import Derived.Test.YtflfdkjbpbjghaaU8W5
namespace Go.Proofs.Ytflfdkjbpbjghaa
open Go.RowKit Go.Shelf Rf
attribute [local go_sem] Oper.semAt_some

theorem off1_iter (n : Nat) (hn : 3 ≤ n) (b : Nat) (s : ByteArray) (hs : s.size ≤ 4611686018427387904) (w : World)
    (hb : w.heap[b]? = some (.cells #[.string s] 9 (0, 0))) : Iter Fence.wide n Try.prog 21 #[.pointer (some ⟨b, 0, none⟩)] encP (U8.poss s.data.toList) w := by
  intro l J Jx W hW hJ hJx hY h0
  have hc : W.cell? ⟨b, 0, none⟩ = some (.string s) := row_cell ((hW.block b (heap_lt hb)).trans hb) 0
  have h1 : 1 ≤ n := by omega
  have hw := walk_yields Fence.wide (n - 1) trivial rfl (by omega) l s hs J Jx W hJ (fun pre x A hA hp => yield_any (hY pre x A hA hp)) h0
  have HW := Lib.hid hw
  clear hw hY hJ hJx h0 hW hb
  have hfw : Fence.wide.fn 19 := trivial
  refine callsIn_of_wp Try.func21 rfl trivial ?_ rfl
  simp only [Try.ntmps21, List.size_toArray, List.length_cons, List.length_nil, Nat.reduceAdd, Nat.reduceSub, Array.replicate_succ, Array.replicate_zero, List.push_toArray, List.append_toArray, List.nil_append, List.cons_append]
  gi_wp2_with (gi_at_call 19; refine HW.out.mono ?_; rintro e W1 ⟨⟨v, rfl⟩, hq⟩; have HQ := Lib.hid hq; clear hq)
  go_end0
  exact ⟨⟨_, rfl⟩, Hid.out ‹_›⟩

/-- What Offset answers. -/
def offV : Option U8.Pos → Value
  | some p => .tuple #[.int .i64 p.1, .int .i64 0]
  | none => .tuple #[.int .i64 0, .int .i64 8]
def OffP (s : ByteArray) (line col : Int) (w : World) (e : Ending) (w' : World) : Prop := e = .returned (offV (U8.offS s.data.toList line col)) ∧ Below w.heap.size w w'
def lcB (line col : Int) (p : U8.Pos) : Bool := (p.2.1 : Int) == line && (p.2.2 : Int) == col

set_option maxRecDepth 100000 in
set_option maxHeartbeats 2000000 in
theorem off_any (s : ByteArray) (hs : s.size ≤ 4611686018427387904) (line col : Int) (w : World) : Calls Try.prog 10 #[.string s, .int .i64 line, .int .i64 col] w (OffP s line col w) := by
  refine (callsIn_wide (n := 6)).1 ?_
  have h1 : 1 ≤ 6 := by omega
  refine callsIn_of_wp_marks Try.func10 rfl trivial ?_ rfl
  simp only [Try.ntmps10, List.size_toArray, List.length_cons, List.length_nil, Nat.reduceAdd, Nat.reduceSub, Array.replicate_succ, Array.replicate_zero, List.push_toArray, List.append_toArray, List.nil_append, List.cons_append]
  gi_wp2
  obtain ⟨B, hB⟩ : ∃ B, B = w.heap.size := ⟨_, rfl⟩
  obtain ⟨W0, hW0⟩ : ∃ W0, ((((w.alloc (.cells #[.string s] 9)).alloc (.cells #[.int .i64 line] 3)).alloc (.cells #[.int .i64 col] 3)).alloc (.cells #[.int .i64 0] 3)).alloc (.cells #[.int .i64 0] 25) = W0 := ⟨_, rfl⟩
  rw [hW0, ← hB]
  have hz : W0.heap.size = B + 5 := by rw [← hW0, hB]; simp
  have hb0 : W0.heap[B]? = some (.cells #[.string s] 9 (0, 0)) := by
    rw [← hW0, hB]; exact (Below.heap_alloc _ _ _ (by simp; omega)).trans ((Below.heap_alloc _ _ _ (by simp; omega)).trans ((Below.heap_alloc _ _ _ (by simp; omega)).trans ((Below.heap_alloc _ _ _ (by simp)).trans (heap_alloc_new _ _))))
  have hb1 : W0.heap[B + 1]? = some (.cells #[.int .i64 line] 3 (0, 0)) := by
    rw [← hW0, hB]; refine (Below.heap_alloc _ _ _ (by simp <;> omega)).trans ((Below.heap_alloc _ _ _ (by simp <;> omega)).trans ((Below.heap_alloc _ _ _ (by simp)).trans ?_)); have := heap_alloc_new (w.alloc (.cells #[.string s] 9)) (.cells #[.int .i64 line] 3); rwa [World.size_alloc] at this
  have hb2 : W0.heap[B + 2]? = some (.cells #[.int .i64 col] 3 (0, 0)) := by
    rw [← hW0, hB]; refine (Below.heap_alloc _ _ _ (by simp)).trans ((Below.heap_alloc _ _ _ (by simp)).trans ?_); have := heap_alloc_new ((w.alloc (.cells #[.string s] 9)).alloc (.cells #[.int .i64 line] 3)) (.cells #[.int .i64 col] 3); simpa using this
  have hb3 : W0.heap[B + 3]? = some (.cells #[.int .i64 0] 3 (0, 0)) := by
    rw [← hW0, hB]; refine (Below.heap_alloc _ _ _ (by simp)).trans ?_; have := heap_alloc_new (((w.alloc (.cells #[.string s] 9)).alloc (.cells #[.int .i64 line] 3)).alloc (.cells #[.int .i64 col] 3)) (.cells #[.int .i64 0] 3); simpa using this
  have hb4 : W0.heap[B + 4]? = some (.cells #[.int .i64 0] 25 (0, 0)) := by
    rw [← hW0, hB]; have := heap_alloc_new ((((w.alloc (.cells #[.string s] 9)).alloc (.cells #[.int .i64 line] 3)).alloc (.cells #[.int .i64 col] 3)).alloc (.cells #[.int .i64 0] 3)) (.cells #[.int .i64 0] 25); simpa using this
  have hbel : Below B w W0 := by rw [← hW0, hB]; exact (((((Below.refl _ w).alloc (Nat.le_refl _) _).alloc (by simp) _).alloc (by simp; omega) _).alloc (by simp; omega) _).alloc (by simp; omega) _
  clear hW0
  have HB := Lib.hid hB
  clear hB
  refine range_mine (L := U8.poss s.data.toList) rfl h1 (gf := 21) (lb := #[.pointer (some ⟨B, 0, none⟩)]) rfl trivial (enters_of Try.func21 (by kernel_rfl) rfl)
    (off1_iter 5 (by omega) B s hs W0 hb0) (Below.refl _ _) (fun _ => rfl)
    (fun pre W => W.heap[B + 1]? = some (.cells #[.int .i64 line] 3 (0, 0)) ∧ W.heap[B + 2]? = some (.cells #[.int .i64 col] 3 (0, 0)) ∧ W.heap[B + 3]? = some (.cells #[.int .i64 0] 3 (0, 0)) ∧ W.heap[B + 4]? = some (.cells #[.int .i64 0] 25 (0, 0)) ∧ Below B w W ∧ ∀ q ∈ pre, lcB line col q = false)
    (fun pre W => ∃ pr p, pre = pr ++ [p] ∧ (∀ q ∈ pr, lcB line col q = false) ∧ lcB line col p = true ∧ W.heap[B + 3]? = some (.cells #[.int .i64 p.1] 3 (0, 0)) ∧ W.heap[B + 4]? = some (.cells #[.int .i64 0] 25 (0, 0)) ∧ Below B w W)
    ?_ ?_ ⟨hb1, hb2, hb3, hb4, hbel, by simp⟩
    (fun x a' W => ∃ Bx, B + 5 ≤ Bx ∧ W.heap[Bx]? = some (.cells #[.int .i64 x.1, .int .i64 x.2.1, .int .i64 x.2.2] 24 (0, 0)) ∧ a' = { tmps := #[.string s, .int .i64 line, .int .i64 col, .pointer (some ⟨B, 0, none⟩), .pointer (some ⟨B + 1, 0, none⟩), .pointer (some ⟨B + 1 + 1, 0, none⟩), .pointer (some ⟨B + 1 + 1 + 1, 0, none⟩), .pointer (some ⟨B + 1 + 1 + 1 + 1, 0, none⟩), .pointer (some ⟨Bx, 0, none⟩), .func (.func 21) #[] #[.pointer (some ⟨B, 0, none⟩)], posV x, undef, undef, undef, undef, undef, undef, undef, undef, undef, undef, undef, undef], defers := [] })
    ?_ ?assign ?body ?done ?stop
  · rintro pre A A' row ⟨h1, h2, h3, h4, h5, h6⟩ hg hr
    have far : ∀ {k : Nat} {o : Obj}, k < B + 5 → A.heap[k]? = some o → A'.heap[k]? = some o := fun hk ho => (hg.block _ (heap_lt ho) (fun e => by have := hr _ e.symm; omega)).trans ho
    exact ⟨far (by omega) h1, far (by omega) h2, far (by omega) h3, far (by omega) h4, h5.grown hg (by have := heap_lt h3; omega) (fun r e => by have := hr r e; omega), h6⟩
  · rintro pre A A' row ⟨pr, p, rfl, h1, h2, h3, h4, h5⟩ hg hr
    have far : ∀ {k : Nat} {o : Obj}, k < B + 5 → A.heap[k]? = some o → A'.heap[k]? = some o := fun hk ho => (hg.block _ (heap_lt ho) (fun e => by have := hr _ e.symm; omega)).trans ho
    exact ⟨pr, p, rfl, h1, h2, far (by omega) h3, far (by omega) h4, h5.grown hg (by have := heap_lt h4; omega) (fun r e => by have := hr r e; omega)⟩
  · rintro x a' u A A' row ⟨Bx, h1, h2, h3⟩ hg hr
    refine ⟨Bx, h1, (hg.block _ (heap_lt h2) (fun e => ?_)).trans h2, h3⟩
    obtain ⟨_, o, ho, hc⟩ := hr _ e.symm
    rw [h2] at ho
    cases ho
    cases hc
  case assign =>
    intro l pre x W K hI hK
    unfold encP
    have HI := Lib.hid hI
    clear hI
    gi_wp2
    obtain ⟨i1, i2, i3, i4, i5, i6⟩ := HI.out
    have hsz := heap_lt i4
    refine hK _ _ ⟨by simp, fun k _ hk => Below.heap_alloc _ _ _ hk⟩ ⟨(Below.heap_alloc _ _ _ (by omega)).trans i1, (Below.heap_alloc _ _ _ (by omega)).trans i2, (Below.heap_alloc _ _ _ (by omega)).trans i3, (Below.heap_alloc _ _ _ (by omega)).trans i4, i5.alloc (by omega) _, i6⟩ ⟨W.heap.size, by omega, heap_alloc_new _ _, rfl⟩
  case body =>
    rintro l pre x a' W ⟨i1, i2, i3, i4, i5, i6⟩ ⟨Bx, hBx, hbx, rfl⟩ hpre
    have c0 := row_cell hbx 0
    have c1 := row_cell hbx 1
    have c2 := row_cell hbx 2
    have d0 := row_cell i1 0
    have d1 := row_cell i2 0
    have e0 := row_cell i3 0
    have f0 := row_cell i4 0
    have g0 := row_free i3 0
    have k0 := row_free i4 0
    simp only [List.getElem?_toArray, List.getElem?_cons_zero, List.getElem?_cons_succ] at c0 c1 c2 d0 d1 e0 f0
    have H1 := Lib.hid i1
    have H2 := Lib.hid i2
    have H3 := Lib.hid i3
    have H4 := Lib.hid i4
    have H6 := Lib.hid i6
    have HP := Lib.hid hpre
    clear i1 i2 i3 i4 i6 hpre hbx
    have no : ∀ (W' : World), lcB line col x = false → W' = W → Post W0.heap.size
        (fun pre W => W.heap[B + 1]? = some (.cells #[.int .i64 line] 3 (0, 0)) ∧ W.heap[B + 2]? = some (.cells #[.int .i64 col] 3 (0, 0)) ∧ W.heap[B + 3]? = some (.cells #[.int .i64 0] 3 (0, 0)) ∧ W.heap[B + 4]? = some (.cells #[.int .i64 0] 25 (0, 0)) ∧ Below B w W ∧ ∀ q ∈ pre, lcB line col q = false)
        (fun pre W => ∃ pr p, pre = pr ++ [p] ∧ (∀ q ∈ pr, lcB line col q = false) ∧ lcB line col p = true ∧ W.heap[B + 3]? = some (.cells #[.int .i64 p.1] 3 (0, 0)) ∧ W.heap[B + 4]? = some (.cells #[.int .i64 0] 25 (0, 0)) ∧ Below B w W)
        (pre ++ [x]) W .normal { tmps := #[], defers := [] } W' := by
      rintro W' hx rfl
      refine ⟨Kept.refl _ _, H1.out, H2.out, H3.out, H4.out, i5, fun q hq => ?_⟩
      rcases List.mem_append.1 hq with hq | hq
      · exact H6.out q hq
      · rw [List.mem_singleton.1 hq]; exact hx
    have NO := Lib.hid no
    clear no
    by_cases hx : ((x.2.1 : Int) == line) = true
    · by_cases hy : ((x.2.2 : Int) == col) = true
      · have hz : lcB line col x = true := by simp only [lcB, hx, hy, Bool.and_self]
        have HX := Lib.hid hz
        clear hz
        gi_wp2
        have q3 := row_set H3.out 0 (.int .i64 x.1)
        simp only [List.setIfInBounds_toArray, List.set_cons_zero] at q3
        have q4 := row_set ((Below.heap_setCell _ ⟨B + 3, 0, none⟩ (.int .i64 x.1) (B + 4) (by simp)).trans H4.out) 0 (.int .i64 0)
        simp only [List.setIfInBounds_toArray, List.set_cons_zero] at q4
        refine ⟨(kept_set _ _ _ _ (by omega)).trans (kept_set _ _ _ _ (by omega)), pre, x, rfl, H6.out, HX.out, (Below.heap_setCell _ ⟨B + 4, 0, none⟩ (.int .i64 0) (B + 3) (by simp)).trans q3, q4, ?_⟩
        exact (i5.setCell (p := ⟨B + 1 + 1 + 1, 0, none⟩) (by simp; omega) _).setCell (p := ⟨B + 1 + 1 + 1 + 1, 0, none⟩) (by simp; omega) _
      · have hy0 : ((x.2.2 : Int) == col) = false := by simpa using hy
        clear hy
        have hz : lcB line col x = false := by simp only [lcB, hx, hy0, Bool.and_false]
        have HX := Lib.hid hz
        clear hz
        gi_wp2
        exact NO.out _ HX.out rfl
    · have hx0 : ((x.2.1 : Int) == line) = false := by simpa using hx
      clear hx
      have hz : lcB line col x = false := by simp only [lcB, hx0, Bool.false_and]
      have HX := Lib.hid hz
      clear hz
      gi_wp2
      exact NO.out _ HX.out rfl
  case done =>
    rintro D W hD ⟨i1, i2, i3, i4, i5, i6⟩ hK
    have e0 := row_cell i3 0
    have f0 := row_cell i4 0
    have g0 := row_free i3 0
    have k0 := row_free i4 0
    simp only [List.getElem?_toArray, List.getElem?_cons_zero] at e0 f0
    have H3 := Lib.hid i3
    have H4 := Lib.hid i4
    have H6 := Lib.hid i6
    have HK := Lib.hid hK
    clear i1 i2 i3 i4 i6 hK
    gi_wp2
    have q3 := row_set H3.out 0 (.int .i64 0)
    simp only [List.setIfInBounds_toArray, List.set_cons_zero] at q3
    have q4 := row_set ((Below.heap_setCell _ ⟨B + 3, 0, none⟩ (.int .i64 0) (B + 4) (by simp)).trans H4.out) 0 (.int .i64 8)
    simp only [List.setIfInBounds_toArray, List.set_cons_zero] at q4
    replace q3 := (Below.heap_setCell _ ⟨B + 4, 0, none⟩ (.int .i64 8) (B + 3) (by simp)).trans q3
    have qb := (i5.setCell (p := ⟨B + 3, 0, none⟩) (by simp) (.int .i64 0)).setCell (p := ⟨B + 4, 0, none⟩) (by simp) (.int .i64 8)
    have qk := (Below.heap_setCell _ ⟨B + 4, 0, none⟩ (.int .i64 8) D (by simp; omega)).trans ((Below.heap_setCell _ ⟨B + 3, 0, none⟩ (.int .i64 0) D (by simp; omega)).trans HK.out)
    refine ⟨by simp, .inl ⟨_, _, rfl, run_takeDeferred qk, ?_⟩⟩
    have r2 := (World.putObj_heap_other (o := .deferred none) (r := D) (k := B + 3) (by omega)).trans q3
    have r3 := (World.putObj_heap_other (o := .deferred none) (r := D) (k := B + 4) (by omega)).trans q4
    have y0 := row_cell r2 0
    have y3 := row_cell r3 0
    simp only [List.getElem?_toArray, List.getElem?_cons_zero] at y0 y3
    refine ⟨offV none, ?_, ?_, ?_⟩
    · simp [results, Try.f10, go_sem, y0, y3, offV]
    · have : U8.offS s.data.toList line col = none := U8.find_none (f := lcB line col) H6.out
      rw [this]
    · have := qb.trans (belowK_b (w := w) (n₀ := B) (by rw [← HB.out]; exact Nat.le_refl _) _ D _ (.deferred none) (by rw [← HB.out]; omega) qk rfl rfl)
      rw [← HB.out]
      exact this
  case stop =>
    rintro D pre W hD hpre ⟨pr, p, rfl, h1, h2, h3, h4, h5⟩ hK
    gi_wp2
    refine ⟨by simp, .inl ⟨_, _, rfl, run_takeDeferred hK, ?_⟩⟩
    have r2 := (World.putObj_heap_other (o := .deferred none) (r := D) (k := B + 3) (by omega)).trans h3
    have r3 := (World.putObj_heap_other (o := .deferred none) (r := D) (k := B + 4) (by omega)).trans h4
    have y0 := row_cell r2 0
    have y3 := row_cell r3 0
    simp only [List.getElem?_toArray, List.getElem?_cons_zero] at y0 y3
    refine ⟨offV (some p), ?_, ?_, ?_⟩
    · simp [results, Try.f10, go_sem, y0, y3, offV]
    · obtain ⟨rest, hrest⟩ := hpre
      have : U8.offS s.data.toList line col = some p := U8.find_pre (pre := pr) (rest := rest) (x := p) (by rw [← hrest]; simp) h1 h2
      rw [this]
    · have := h5.trans (belowK_b (w := w) (n₀ := B) (by rw [← HB.out]; exact Nat.le_refl _) W D _ (.deferred none) (by rw [← HB.out]; omega) hK rfl rfl)
      rw [← HB.out]
      exact this
end Go.Proofs.Ytflfdkjbpbjghaa
