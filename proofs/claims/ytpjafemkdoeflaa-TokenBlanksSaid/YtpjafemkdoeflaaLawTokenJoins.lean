/-
  The law TokenJoins: the tokens of two texts, one after the other.
-/
import Derived.Test.YtpjafemkdoeflaaLawTokenTexts
import Derived.Test.YtpjafemkdoeflaaTkQ
import Derived.Laws.AppendOwnNone
namespace Go.Proofs.Ytpjafemkdoeflaa
open Go.RowKit

theorem own_set {w : World} {base : Nat} {e : TypeId} {size n g cap : Nat} {xs : List Value} (h : w.ownsRow base e size (.slice (some ⟨g, 0, none⟩) n cap) n xs) (j : Nat) (x : Value) : (w.setCell ⟨g, j, none⟩ x).ownsRow base e size (.slice (some ⟨g, 0, none⟩) n cap) n (xs.set j x) := by
  obtain ⟨hl, ⟨hv, h0⟩ | ⟨g', cap', cur, hv, hb, hg, h1, h2, h3, h4⟩⟩ := h
  · cases hv
  · cases hv
    refine ⟨by rw [List.length_set]; exact hl, .inr ⟨g, cap, cur.setIfInBounds j x, rfl, hb, ?_, h1, h2, by simpa using h3, ?_⟩⟩
    · exact Lib.heap_setCell_same (i := j) hg x
    · rw [← h4]
      simp [List.take_set]
theorem own_cell {w : World} {base : Nat} {e : TypeId} {size n g cap : Nat} {xs : List Value} (h : w.ownsRow base e size (.slice (some ⟨g, 0, none⟩) n cap) n xs) {j : Nat} {x : Value} (hx : xs[j]? = some x) : w.cell? ⟨g, j, none⟩ = some x ∧ w.frozen? ⟨g, j, none⟩ = false := by
  have h' := h
  obtain ⟨hl, ⟨hv, h0⟩ | ⟨g', cap', cur, hv, hb, hg, h1, h2, h3, h4⟩⟩ := h
  · cases hv
  · cases hv
    have := h'.cells (g := g) rfl j x hx
    have e : (⟨g, 0, none⟩ : Addr).add j = ⟨g, j, none⟩ := by unfold Addr.add; split <;> simp_all
    rw [e] at this
    exact ⟨this, Lib.frozen_of_heap hg j⟩
/-- Two lists of tokens with the same kinds and texts. -/
theorem same_keys {a b : List Tok} (h : a.map keyT = b.map keyT) : SameT false a b := by
  have hl : a.length = b.length := by have := congrArg List.length h; simpa using this
  refine ⟨hl, fun i x y hx hy => ?_⟩
  have h1 : (a.map keyT)[i]? = some (keyT x) := by simp [hx]
  have h2 : (b.map keyT)[i]? = some (keyT y) := by simp [hy]
  rw [h, h2] at h1
  injection h1 with h1
  unfold keyT at h1
  injection h1 with h1 h3
  exact ⟨h1.symm, h3.symm, fun h => by cases h⟩
theorem joinK_app : ∀ (a : List (Nat × By)) (x : Nat × By) (m : List (Nat × By)), joinK (a ++ [x]) m = a ++ joinK [x] m
  | [], x, m => rfl
  | y :: a, x, m => by
    rw [List.cons_append, joinK_cons (by simp), joinK_app a x m]
    rfl
theorem joinK_nil (a : List (Nat × By)) : joinK a [] = a := by
  induction a with
  | nil => rfl
  | cons x a ih =>
    cases a with
    | nil => rfl
    | cons y a => rw [joinK_cons (by simp), ih]
theorem ba_add (a b : By) : ba a ++ ba b = ba (a ++ b) := by
  apply ba_of
  rw [ByteArray.data_append]
  simp [ba]
/-- The tokens of both, where both texts have no error. -/
theorem join_toks {a b : By} {ta tb : List Tok} (ha : toks a = (ta, none)) (hb : toks b = (tb, none)) : ∃ us, toks (a ++ b) = (us, none) ∧ us.map keyT = joinK (ta.map keyT) (tb.map keyT) := by
  have hb' : ∀ g p, b.length < g → ∃ us, toksF g b p 0 = (us, none) ∧ us.map keyT = tb.map keyT := by
    intro g p hg
    have hf := toksF_fuel g (b.length + 1) b p 0 hg (by omega)
    have hs := toks_shift (b.length + 1) b p 0 0
    have hb2 : toksF (b.length + 1) b 0 0 = (tb, none) := hb
    rw [hb2] at hs
    rw [hf]
    exact ⟨_, Prod.ext rfl (hs.2.2 rfl), hs.1⟩
  exact toks_join b tb hb' (a.length + 1) a 0 0 ta ((a ++ b).length + 1) ha (by omega)
theorem flatT_pre {a b : List Tok} {i : Nat} : (flatT (a ++ b))[4 * a.length + i]? = (flatT b)[i]? := by
  rw [flatT_app, List.getElem?_append_right (by rw [flatT_len]; omega), flatT_len, Nat.add_sub_cancel_left]
theorem flatT_last (a : List Tok) (x : Tok) (s : By) : (flatT (a ++ [x])).set (4 * a.length + 1) (.string (ba s)) = flatT (a ++ [(x.1, s, x.2.2.1, x.2.2.2)]) := by
  rw [flatT_one, flatT_one, List.set_append_right _ _ (by rw [flatT_len]; omega), flatT_len, Nat.add_sub_cancel_left]
  rfl

theorem own_far {w w' : World} {B n sz : Nat} {e : TypeId} {v : Value} {xs : List Value} (h : w.ownsRow B e sz v n xs) {r : Option Nat} (hg : w.grownBy w' r) (hr : ∀ g, r = some g → g < B) : w'.ownsRow B e sz v n xs := by
  obtain ⟨hl, h0 | ⟨g, cap, cur, rfl, hbg, hgg, q⟩⟩ := h
  · exact ⟨hl, .inl h0⟩
  · refine ⟨hl, .inr ⟨g, cap, cur, rfl, hbg, ?_, q⟩⟩
    rw [hg.block g (Array.getElem?_eq_some_iff.1 hgg).1 ?_]
    · exact hgg
    · intro hk
      have := hr g hk.symm
      omega
theorem joinK_not {a b : List (Nat × By)} (h : ¬ (∃ a' x y b', a = a' ++ [x] ∧ b = y :: b' ∧ x.1 = 1 ∧ y.1 = 1)) : joinK a b = a ++ b := by
  rcases List.eq_nil_or_concat a with rfl | ⟨a', x, rfl⟩
  · rfl
  · rw [List.concat_eq_append] at h ⊢
    rw [joinK_app]
    cases b with
    | nil => simp [joinK]
    | cons y b =>
      have hn : ¬ (x.1 = 1 ∧ y.1 = 1) := fun h2 => h ⟨a', x, y, b, rfl, rfl, h2.1, h2.2⟩
      rw [joinK, if_neg hn]
      simp
theorem flat_one {l : List Tok} : ∀ u ∈ flatT l, u.oneCell' = true := by
  intro u hu
  unfold flatT at hu
  obtain ⟨x, _, hx⟩ := List.mem_flatMap.1 hu
  unfold cellsT at hx
  simp at hx
  rcases hx with rfl | rfl | rfl | rfl <;> rfl
/-- append of a row to another one of the same type, as a run. -/
theorem app_run {w : World} {B1 B2 : Nat} {v u : Value} {A B : List Tok} (h1 : w.ownsRow B1 36 4 v A.length (flatT A)) (h2 : w.ownsRow B2 36 4 u B.length (flatT B)) (hl : A.length + B.length ≤ 100000) (hB : B1 ≤ w.heap.size) :
    ∃ v' w', (Builtin.append_ #[27, 27] 27 #[v, u]).run Try.prog w = .ok v' w' ∧ w'.ownsRow B1 36 4 v' (A ++ B).length (flatT (A ++ B)) ∧ w.grownBy w' v.ownBlock := by
  obtain ⟨j0, hj, hy0, hy1, hy2⟩ := info_parts Try.infoTokR
  rw [flatT_app, List.length_append]
  have h2' := h2
  rcases h2'.2 with ⟨rfl, h0⟩ | ⟨g, cap, cur, rfl, hb, hg, _⟩
  · have hB0 : B = [] := List.eq_nil_of_length_eq_zero h0
    subst hB0
    refine ⟨v, w, run_append_owned_none (P := Try.prog) (w := w) B1 27 27 36 j0 4 Try.underlying27 hj v _ _ h1, ?_, ⟨rfl, rfl, rfl, Nat.le_refl _, fun _ _ _ => rfl⟩⟩
    have e : flatT [] = [] := rfl
    rw [e, List.append_nil]
    exact h1
  · obtain ⟨v', w', r1, r2, r3, _⟩ := run_append_own (P := Try.prog) (w := w) B1 27 27 36 j0 (.agg #[.int .i64 0, .string ⟨#[]⟩, .int .i64 0, .int .i64 0]) 4 40 Try.underlying27 hj hy0 hy1 hy2 rfl (by decide) v A.length (flatT A) h1 ⟨g, 0, none⟩ B.length cap (flatT B) (by rw [flatT_len]; omega) (fun j y hj => h2.cells (g := g) rfl j y hj) flat_one (by unfold maxLen; omega) (by omega) hB
    exact ⟨v', w', r1, r2, r3⟩

theorem grown_set (w : World) (a : Addr) (u : Value) : w.grownBy (w.setCell a u) (some a.block) :=
  ⟨rfl, rfl, rfl, by simp, fun k _ hk => heap_setCell_other w a k u (fun e => hk (by rw [e]))⟩
/-- append of a row's tail to another one of the same type, as a run. -/
theorem app_tail {w : World} {B1 B2 : Nat} {v : Value} {A B : List Tok} {y : Tok} {g cap c o : Nat} (ho : o = 4 ∨ B.length = 0) (h1 : w.ownsRow B1 36 4 v A.length (flatT A)) (h2 : w.ownsRow B2 36 4 (.slice (some ⟨g, 0, none⟩) (y :: B).length cap) (y :: B).length (flatT (y :: B))) (hl : A.length + B.length ≤ 100000) (hB : B1 ≤ w.heap.size) :
    ∃ v' w', (Builtin.append_ #[27, 27] 27 #[v, .slice (some ⟨g, o, none⟩) B.length c]).run Try.prog w = .ok v' w' ∧ w'.ownsRow B1 36 4 v' (A ++ B).length (flatT (A ++ B)) ∧ w.grownBy w' v.ownBlock := by
  obtain ⟨j0, hj, hy0, hy1, hy2⟩ := info_parts Try.infoTokR
  rw [flatT_app, List.length_append]
  have hcells : ∀ j u, (flatT B)[j]? = some u → w.cell? ((⟨g, o, none⟩ : Addr).add j) = some u := by
    intro j u hj
    rcases ho with rfl | h0
    rotate_left
    · have := (List.getElem?_eq_some_iff.1 hj).1
      rw [flatT_len] at this
      omega
    have e1 : (⟨g, 4, none⟩ : Addr).add j = ⟨g, 4 + j, none⟩ := by unfold Addr.add; split <;> simp_all
    rw [e1]
    exact (own_cell h2 (j := 4 + j) (x := u) (by rw [← hj]; exact flatT_pre (a := [y]))).1
  obtain ⟨v', w', r1, r2, r3, _⟩ := run_append_own (P := Try.prog) (w := w) B1 27 27 36 j0 (.agg #[.int .i64 0, .string ⟨#[]⟩, .int .i64 0, .int .i64 0]) 4 40 Try.underlying27 hj hy0 hy1 hy2 rfl (by decide) v A.length (flatT A) h1 ⟨g, o, none⟩ B.length c (flatT B) (by rw [flatT_len]; omega) hcells flat_one (by unfold maxLen; omega) (by omega) hB
  exact ⟨v', w', r1, r2, r3⟩

/-- A plain token's text is no longer than the text that it was read from. -/
theorem toksF_txt : ∀ (f : Nat) (l : By) (a d : Nat), ∀ x ∈ (toksF f l a d).1, x.1 = 1 → x.2.1.length ≤ l.length
  | 0, l, a, d => by intro x hx; simp [toksF] at hx
  | f + 1, [], a, d => by intro x hx; simp [toksF] at hx
  | f + 1, c :: r, a, d => by
    intro x hx h1
    rw [toksF] at hx
    split at hx
    · exact Nat.le_trans (toksF_txt f r _ _ x hx h1) (by simp)
    · split at hx
      · simp at hx
      · rename_i k t n ht
        split at hx
        · simp at hx
        · rcases List.mem_cons.1 hx with rfl | hx
          · have h1 : k = 1 := h1
            have h2 := (tok1_text_of ht).1 (by omega) (by omega) (by omega)
            show t.length ≤ _
            rw [← h2, List.length_take]
            exact Nat.min_le_right _ _
          · refine Nat.le_trans (toksF_txt f _ _ _ x hx h1) ?_
            rw [List.length_drop]
            omega
/-- An append whose run is known. -/
theorem wp_append_run {P : Program} {w : World} {o : Oper} {a : Act} {K : Act → World → Prop} {Q : Exit → Act → World → Prop} (s x : Operand) (t : TypeId)
    (ho : o.op = .call { callee := .builtin .append, args := #[s, x], argTypes := #[t, t] }) (v u v' : Value) (w' : World) (hs : a.eval s = v) (hx : a.eval x = u)
    (hrun : (Builtin.append_ #[t, t] o.type #[v, u]).run P w = .ok v' w') (h : K (a.put o.dst v') w') : o.wp P a w K Q := by
  unfold Oper.wp
  simp [execOp, ho, resolve, invoke, builtin, hs, hx, hrun, Result.andThen]
  exact h

set_option maxRecDepth 100000 in
set_option maxHeartbeats 8000000 in
theorem law_TokenJoins (s t : ByteArray) (hs : s.size ≤ maxLen) (ht : t.size ≤ maxLen) (w : World) : Calls Try.prog 5 #[.string s, .string t] w (TrueP w) := by
  unfold maxLen at hs ht
  by_cases hl : 2000 < s.size
  · go_enter Try.func5, Try.ntmps5
    go_wp2_with fail
    refine (awake_any _).mono ?_
    rintro e w1 ⟨rfl, hb1⟩
    have HB1 := Lib.hid hb1
    clear hb1
    go_wp2
    go_ret
    exact ⟨rfl, HB1.out⟩
  by_cases hl2 : 2000 < t.size
  · go_enter Try.func5, Try.ntmps5
    go_wp2_with fail
    refine (awake_any _).mono ?_
    rintro e w1 ⟨rfl, hb1⟩
    have HB1 := Lib.hid hb1
    clear hb1
    go_wp2
    go_ret
    exact ⟨rfl, HB1.out⟩
  obtain ⟨a, hla⟩ : ∃ a, s.data.toList = a := ⟨_, rfl⟩
  have hsa := ba_of hla
  subst hsa
  obtain ⟨b, hlb⟩ : ∃ b, t.data.toList = b := ⟨_, rfl⟩
  have hsb := ba_of hlb
  subst hsb
  have hza : (ba a).size = a.length := rfl
  have hzb : (ba b).size = b.length := rfl
  rw [hza] at hl hs
  rw [hzb] at hl2 ht
  have h1 := fun W => tokens_any a (by omega) W
  have h2 := fun W => tokens_any b (by omega) W
  have h3 := fun W => tokens_any (a ++ b) (by rw [List.length_append]; omega) W
  unfold ToksP at h1 h2 h3
  rw [← ba_add] at h3
  have hn1 := outL_len a
  have hn2 := outL_len b
  have hn3 := outL_len (a ++ b)
  by_cases hea : (toks a).2 = none
  · by_cases heb : (toks b).2 = none
    · obtain ⟨q1, q2, q3⟩ := toks_good (l := a) (by omega) rfl hea
      obtain ⟨r1, r2, r3⟩ := toks_good (l := b) (by omega) rfl heb
      obtain ⟨us, hu1, hu2⟩ := join_toks (a := a) (b := b) (ta := (toks a).1) (tb := (toks b).1) (Prod.ext rfl hea) (Prod.ext rfl heb)
      obtain ⟨p1, p2, p3⟩ := toks_good (l := a ++ b) (by rw [List.length_append]; omega) rfl (by rw [hu1])
      rw [hu1] at p1
      have p1 : outL (a ++ b) = us := p1
      rw [q1] at hn1 h1
      rw [r1] at hn2 h2
      rw [p1] at hn3 h3
      simp only [q2, q3] at h1
      simp only [r2, r3] at h2
      simp only [p2, p3] at h3
      obtain ⟨A, hA⟩ : ∃ A, (toks a).1 = A := ⟨_, rfl⟩
      obtain ⟨B, hB⟩ : ∃ B, (toks b).1 = B := ⟨_, rfl⟩
      have hxa : ∀ x ∈ A, x.1 = 1 → x.2.1.length ≤ a.length := by rw [← hA]; exact toksF_txt (a.length + 1) a 0 0
      have hxb : ∀ x ∈ B, x.1 = 1 → x.2.1.length ≤ b.length := by rw [← hB]; exact toksF_txt (b.length + 1) b 0 0
      rw [hA] at hn1 hu2
      rw [hB] at hn2 hu2
      simp only [hA] at h1
      simp only [hB] at h2
      have H1 := Lib.hid h1
      have H2 := Lib.hid h2
      have H3 := Lib.hid h3
      have HU := Lib.hid hu2
      have HXA := Lib.hid hxa
      have HXB := Lib.hid hxb
      clear hxa hxb h1 h2 h3 hu1 hu2 q1 q2 q3 r1 r2 r3 p1 p2 p3 hA hB hea heb hla hlb
      go_enter Try.func5, Try.ntmps5
      go_wp2_with fail
      refine (awake_any _).mono ?_
      rintro e w1 ⟨rfl, hb1⟩
      have HB1 := Lib.hid hb1
      clear hb1
      go_wp2_with fail
      refine (H1.out _).mono ?_
      rintro e w2 ⟨v2, rfl, hi2, hb2⟩
      have HI2 := Lib.hid hi2
      have HB2 := Lib.hid (HB1.out.trans (hb2.mono HB1.out.size))
      clear hi2 hb2
      go_wp2_with fail
      refine (H2.out _).mono ?_
      rintro e w3 ⟨v3, rfl, hi3, hb3⟩
      have HI3 := Lib.hid hi3
      have HI23 := Lib.hid ((HI2.out.below hb3).more hb3.size)
      have HB3 := Lib.hid (HB2.out.trans (hb3.mono HB2.out.size))
      clear hi3 hb3 HI2
      go_wp2_with fail
      refine (H3.out _).mono ?_
      rintro e w4 ⟨v4, rfl, hi4, hb4⟩
      have HI4 := Lib.hid hi4
      have HI24 := Lib.hid ((HI23.out.below hb4).more hb4.size)
      have HI34 := Lib.hid ((HI3.out.below hb4).more hb4.size)
      have HB4 := Lib.hid (HB3.out.trans (hb4.mono HB3.out.size))
      clear hi4 hb4 HI23 HI3
      have hw5 := own_any v2 A w4.heap.size w4 HI24.out (Nat.le_refl _) (by omega)
      have HW5 := Lib.hid hw5
      clear hw5
      go_wp2_with fail
      refine HW5.out.mono ?_
      rintro e w5 ⟨v5, rfl, ho5, hb5⟩
      have hw6 := own_any v3 B w5.heap.size w5 ((HI34.out.below hb5).more hb5.size) (Nat.le_refl _) (by omega)
      have HW6 := Lib.hid hw6
      have HO5 := Lib.hid ho5
      have HI45 := Lib.hid ((HI4.out.below hb5).more hb5.size)
      have HB5 := Lib.hid (HB4.out.trans (hb5.mono HB4.out.size))
      have hs5 := hb5.size
      have hw7g : ∀ W, Below w4.heap.size w4 W → Calls Try.prog 12 #[v4] W fun e w' => ∃ r, e = .returned r ∧ w'.ownsRow W.heap.size 36 4 r us.length (flatT us) ∧ Below W.heap.size W w' := fun W hb => own_any v4 us w4.heap.size W (HI4.out.below hb) hb.size (by omega)
      have HW7G := Lib.hid hw7g
      have HB45 := Lib.hid hb5
      clear hw7g
      clear hw6 ho5 hb5 HI34 HI24 HI4
      go_wp2_with fail
      refine HW6.out.mono ?_
      rintro e w6 ⟨v6, rfl, ho6, hb6⟩
      have HO6 := Lib.hid ho6
      have HO56 := Lib.hid (own_keep HO5.out hb6)
      have HI46 := Lib.hid ((HI45.out.below hb6).more hb6.size)
      have HB6 := Lib.hid (HB5.out.trans (hb6.mono HB5.out.size))
      have hs6 := hb6.size
      have HB46 := Lib.hid (HB45.out.trans (hb6.mono hs5))
      clear HB45
      have hO5lt : ∀ g, v5.ownBlock = some g → g < w5.heap.size := fun g hg => (HO5.out.lt g hg).2
      clear ho6 hb6 HI45 HO5
      have hw7 := own_any v4 us w6.heap.size w6 HI46.out (Nat.le_refl _) (by omega)
      have HW7 := Lib.hid hw7
      clear hw7 HW5 HW6 H1 H2 H3
      have hf5 := IsToks.of_own HO56.out
      obtain ⟨ao5, ca5, rfl, hc5⟩ := hf5
      have hf6 := IsToks.of_own HO6.out
      obtain ⟨ao6, ca6, rfl, hc6⟩ := hf6
      have hB5 : ∀ g, (Value.slice ao5 A.length ca5).ownBlock = some g → g < w6.heap.size := fun g hg => (HO56.out.lt g hg).2
      have hB56 := HB6.out.size
      have HC5 := Lib.hid hc5
      have HC6 := Lib.hid hc6
      have HBB := Lib.hid hB5
      have hOlt := Lib.hid hO5lt
      clear hc5 hc6 hB5 hO5lt
      by_cases hmg : ∃ A' x y B', A = A' ++ [x] ∧ B = y :: B' ∧ x.1 = 1 ∧ y.1 = 1
      · obtain ⟨A', x, y, B', hAe, hBe, hx1, hy1⟩ := hmg
        have hAx : A[A'.length]? = some x := by rw [hAe, List.getElem?_append_right (Nat.le_refl _), Nat.sub_self]; rfl
        have hBy : B[0]? = some y := by rw [hBe]; rfl
        have hal : A.length = A'.length + 1 := by rw [hAe, List.length_append]; rfl
        have hbl : B.length = B'.length + 1 := by rw [hBe]; rfl
        have hzx : (ba x.2.1).size ≤ 2000 := by
          have := HXA.out x (List.mem_of_getElem? hAx) hx1
          show x.2.1.length ≤ 2000
          omega
        have hzy : (ba y.2.1).size ≤ 2000 := by
          have := HXB.out y (List.mem_of_getElem? hBy) hy1
          show y.2.1.length ≤ 2000
          omega
        obtain ⟨g5, cp5, he5, hlo5, hlt5⟩ := HO56.out.form (by omega)
        cases he5
        obtain ⟨g6, cp6, he6, hlo6, hlt6⟩ := HO6.out.form (by omega)
        cases he6
        have hlt5' : g5 < w5.heap.size := by
          have := hOlt.out g5 rfl
          exact this
        obtain ⟨q5, f5⟩ := own_cell HO56.out (flatT_at A _ x hAx).1
        obtain ⟨t5, ft5⟩ := own_cell HO56.out (flatT_at A _ x hAx).2.1
        obtain ⟨q6, f6⟩ := own_cell HO6.out (flatT_at B _ y hBy).1
        obtain ⟨t6, ft6⟩ := own_cell HO6.out (flatT_at B _ y hBy).2.1
        rw [hx1, Nat.mul_comm] at q5
        rw [Nat.mul_comm] at t5 f5 ft5
        rw [hy1, Nat.mul_zero] at q6
        rw [Nat.mul_zero] at t6 f6 ft6
        rw [Nat.zero_add] at t6 ft6
        have hkey : us.map keyT = ((A' ++ [(x.1, x.2.1 ++ y.2.1, x.2.2.1, x.2.2.2)]) ++ B').map keyT := by
          rw [HU.out, hAe, hBe]
          simp only [List.map_append, List.map_cons, List.map_nil]
          rw [joinK_app, List.append_assoc]
          congr 1
          unfold joinK
          rw [if_pos ⟨hx1, hy1⟩]
          unfold keyT
          rw [hx1]
          simp
        have hfin : ∀ W v7 w7 o6 c6, (o6 = 4 ∨ B'.length = 0) → W = (w6.setCell ⟨g5, A'.length * 4 + 1, none⟩ (.string (ba x.2.1 ++ ba y.2.1))).drew → w7.ownsRow W.heap.size 36 4 v7 us.length (flatT us) → Below W.heap.size W w7 → ∃ v8 w8, (Builtin.append_ #[27, 27] 27 #[.slice (some ⟨g5, 0, none⟩) A.length ca5, .slice (some ⟨g6, o6, none⟩) B'.length c6]).run Try.prog w7 = .ok v8 w8 ∧ Below w.heap.size w w8 ∧ Calls Try.prog 11 #[v7, v8, .bool false] w8 fun e w' => e = .returned (.bool true) ∧ Below w8.heap.size w8 w' := by
          intro W v7 w7 o6 c6 ho6 hW ho7 hb7
          have hWs : W.heap.size = w6.heap.size := by rw [hW]; simp
          have hg5 : w6.grownBy W (some g5) := by
            have hg := grown_set w6 ⟨g5, A'.length * 4 + 1, none⟩ (.string (ba x.2.1 ++ ba y.2.1))
            rw [hW]
            exact ⟨rfl, rfl, rfl, hg.4, hg.5⟩
          have hO5W : W.ownsRow w4.heap.size 36 4 (.slice (some ⟨g5, 0, none⟩) A.length ca5) A.length (flatT (A' ++ [(x.1, x.2.1 ++ y.2.1, x.2.2.1, x.2.2.2)])) := by
            have := own_set HO56.out (A'.length * 4 + 1) (.string (ba x.2.1 ++ ba y.2.1))
            rw [ba_add, Nat.mul_comm, hAe, flatT_last] at this
            rw [hW, ba_add, Nat.mul_comm, hAe]
            exact this
          have hO6W := own_far HO6.out hg5 (fun g hg => by injection hg with hg; rw [← hg]; exact hlt5')
          have hL := own_keep hO5W hb7
          have hM := own_keep hO6W hb7
          have hs7 := hb7.size
          have hs4 := HB4.out.size
          have hal2 : A.length = (A' ++ [(x.1, x.2.1 ++ y.2.1, x.2.2.1, x.2.2.2)]).length := by rw [hal, List.length_append]; rfl
          rw [hal2] at hL ⊢
          rw [hBe] at hM
          obtain ⟨v8, w8, hrun, ho8, hg8⟩ := app_tail (c := c6) ho6 hL hM (by rw [← hal2]; omega) (by omega)
          have ho78 := own_far ho7 hg8 (fun g hg => by simp [Value.ownBlock] at hg; omega)
          have hs8 := hg8.size
          refine ⟨v8, w8, hrun, ?_, sameT_any v7 v8 us _ false w8.heap.size w8 (IsToks.of_own ho78) (IsToks.of_own ho8) (same_keys hkey) (by omega)⟩
          exact (((HB6.out.grown hg5 (by omega) (fun g hg => by injection hg with hg; omega)).trans (hb7.mono (by omega))).grown hg8 (by omega) (fun g hg => by simp [Value.ownBlock] at hg; omega))
        have HFIN := Lib.hid hfin
        have hA0 : (0 : Int) < (A.length : Int) := by omega
        have hB0 : (0 : Int) < (B.length : Int) := by omega
        have hA1 : 0 < A.length := by omega
        have hB1 : 0 < B.length := by omega
        have hna : (A.length : Int) - 1 = (A'.length : Int) := by omega
        have hna2 : (A'.length : Int) < (A.length : Int) := by omega
        have hnb : (B.length : Int) - 1 = (B'.length : Int) := by omega
        have hnb2 : B.length - 1 = B'.length := by omega
        have hO6c : B.length ≤ ca6 := by
          obtain ⟨_, ⟨h, _⟩ | ⟨g', cap', cur, h, _, _, h1, h2, _⟩⟩ := HO6.out
          · cases h
          · cases h
            omega
        have hbW : Below w4.heap.size w4 (w6.setCell ⟨g5, A'.length * 4 + 1, none⟩ (.string (ba x.2.1 ++ ba y.2.1))).drew := by
          have h := HB46.out.setCell (p := ⟨g5, A'.length * 4 + 1, none⟩) hlo5 (.string (ba x.2.1 ++ ba y.2.1))
          exact ⟨h.os, h.tape, h.output, h.size, h.block⟩
        have HBW := Lib.hid hbW
        clear hfin hkey hal hbl hAe hBe hbW
        go_upto_region 12 with fail
        go_region
        go_wp2_with fail
        case inl =>
          refine (HW7G.out _ HBW.out).mono ?_
          rintro e w7 ⟨v7, rfl, ho7, hb7⟩
          obtain ⟨v8, w8, hrun, hb8, hcall⟩ := HFIN.out _ v7 w7 0 0 (.inr (by omega)) rfl ho7 hb7
          have HCALL := Lib.hid hcall
          have HB8 := Lib.hid hb8
          have HRUN := Lib.hid hrun
          clear ho7 hb7 hcall hb8 hrun
          go_wp2_with (at_builtin; go_loud (go_guarded; refine wp_append_run (.tmp 109) (.tmp 110) _ rfl _ _ _ _ (by simp [Act.eval]) (by simp [Act.eval]) HRUN.out ?_))
          refine HCALL.out.mono ?_
          rintro e w9 ⟨rfl, hb9⟩
          have HB9 := Lib.hid (HB8.out.trans (hb9.mono HB8.out.size))
          clear hb9
          go_wp2
          go_ret
          exact ⟨rfl, HB9.out⟩
        case inr =>
          refine (HW7G.out _ HBW.out).mono ?_
          rintro e w7 ⟨v7, rfl, ho7, hb7⟩
          obtain ⟨v8, w8, hrun, hb8, hcall⟩ := HFIN.out _ v7 w7 4 (ca6 - 1) (.inl rfl) rfl ho7 hb7
          have HCALL := Lib.hid hcall
          have HB8 := Lib.hid hb8
          have HRUN := Lib.hid hrun
          clear ho7 hb7 hcall hb8 hrun
          go_wp2_with (at_builtin; go_loud (go_guarded; refine wp_append_run (.tmp 109) (.tmp 110) _ rfl _ _ _ _ (by simp [Act.eval]) (by simp [Act.eval]) HRUN.out ?_))
          refine HCALL.out.mono ?_
          rintro e w9 ⟨rfl, hb9⟩
          have HB9 := Lib.hid (HB8.out.trans (hb9.mono HB8.out.size))
          clear hb9
          go_wp2
          go_ret
          exact ⟨rfl, HB9.out⟩
      · have hkey : us.map keyT = (A ++ B).map keyT := by
          rw [HU.out, List.map_append]
          refine joinK_not ?_
          rintro ⟨a', x, y, b', h1, h2, h3, h4⟩
          refine hmg ?_
          obtain ⟨A', x', rfl, rfl, hx⟩ : ∃ A' x', A = A' ++ [x'] ∧ a' = A'.map keyT ∧ keyT x' = x := by
            rcases List.eq_nil_or_concat A with rfl | ⟨A', x', rfl⟩
            · simp at h1
            · rw [List.concat_eq_append, List.map_append] at h1
              have := List.append_inj' h1 rfl
              exact ⟨A', x', List.concat_eq_append, this.1.symm, by have := this.2; simpa using this⟩
          cases B with
          | nil => simp at h2
          | cons y' B' =>
            rw [List.map_cons] at h2
            injection h2 with h2 _
            exact ⟨A', x', y', B', rfl, rfl, by rw [← hx] at h3; exact h3, by rw [← h2] at h4; exact h4⟩
        have htest : (A.length = 0) ∨ (0 < A.length ∧ B.length = 0) ∨ (∃ na b5 o5 kx, A.length = na + 1 ∧ ao5 = some ⟨b5, o5, none⟩ ∧ 0 < B.length ∧ kx ≠ 1 ∧ w6.cell? ⟨b5, o5 + na * 4, none⟩ = some (.int .i64 ((kx : Nat) : Int))) ∨ (∃ na b5 o5 b6 o6 ky, A.length = na + 1 ∧ ao5 = some ⟨b5, o5, none⟩ ∧ ao6 = some ⟨b6, o6, none⟩ ∧ 0 < B.length ∧ ky ≠ 1 ∧ w6.cell? ⟨b5, o5 + na * 4, none⟩ = some (.int .i64 1) ∧ w6.cell? ⟨b6, o6, none⟩ = some (.int .i64 ((ky : Nat) : Int))) := by
          rcases List.eq_nil_or_concat A with h | ⟨A', x, h⟩
          · exact .inl (by rw [h]; rfl)
          · rw [List.concat_eq_append] at h
            have hal : A.length = A'.length + 1 := by rw [h, List.length_append]; rfl
            cases hB : B with
            | nil => exact .inr (.inl ⟨by omega, rfl⟩)
            | cons y B' =>
              have hbl : B.length = B'.length + 1 := by rw [hB]; rfl
              have hx : A[A'.length]? = some x := by rw [h, List.getElem?_append_right (Nat.le_refl _), Nat.sub_self]; rfl
              have hy : B[0]? = some y := by rw [hB]; rfl
              obtain ⟨b5, o5, ha5, _, hc5⟩ := HC5.out (by omega)
              obtain ⟨b6, o6, ha6, _, hc6⟩ := HC6.out (by omega)
              obtain ⟨c5, _⟩ := hc5 _ x hx
              obtain ⟨c6, _⟩ := hc6 _ y hy
              rw [Nat.zero_mul, Nat.add_zero] at c6
              by_cases hx1 : x.1 = 1
              · have hy1 : y.1 ≠ 1 := fun hy1 => hmg ⟨A', x, y, B', h, hB, hx1, hy1⟩
                rw [hx1] at c5
                exact .inr (.inr (.inr ⟨A'.length, b5, o5, b6, o6, y.1, hal, ha5, ha6, by simp, hy1, c5, c6⟩))
              · exact .inr (.inr (.inl ⟨A'.length, b5, o5, x.1, hal, ha5, by simp, hx1, c5⟩))
        have hfin : ∀ w7 v7, w7.ownsRow w6.heap.size 36 4 v7 us.length (flatT us) → Below w6.heap.size w6 w7 → ∃ v8 w8, (Builtin.append_ #[27, 27] 27 #[.slice ao5 A.length ca5, .slice ao6 B.length ca6]).run Try.prog w7 = .ok v8 w8 ∧ Below w.heap.size w w8 ∧ Calls Try.prog 11 #[v7, v8, .bool false] w8 fun e w' => e = .returned (.bool true) ∧ Below w8.heap.size w8 w' := by
          intro w7 v7 ho7 hb7
          have hL := own_keep HO56.out hb7
          have hM := own_keep HO6.out hb7
          have hs7 := hb7.size
          have hs4 := HB4.out.size
          obtain ⟨v8, w8, hrun, ho8, hg8⟩ := app_run hL hM (by omega) (by omega)
          have ho78 := own_far ho7 hg8 (fun g hg => HBB.out g hg)
          have hs8 := hg8.size
          refine ⟨v8, w8, hrun, ?_, sameT_any v7 v8 us (A ++ B) false w8.heap.size w8 (IsToks.of_own ho78) (IsToks.of_own ho8) (same_keys hkey) (by omega)⟩
          exact (HB6.out.trans (hb7.mono HB6.out.size)).grown hg8 (by omega) (fun g hg => Nat.le_trans hs4 (own_from HO56.out g hg))
        have HFIN := Lib.hid hfin
        clear hfin hkey hmg
        rcases htest with h0 | ⟨h0, h00⟩ | ⟨na, b5, o5, kx, h0, rfl, h00, hkx, c5⟩ | ⟨na, b5, o5, b6, o6, ky, h0, rfl, rfl, h00, hky, c5, c6⟩
        all_goals
          first | (have hkx2 : ((kx : Int) == 1) = false := by simp; omega) | skip
          first | (have hky2 : ((ky : Int) == 1) = false := by simp; omega) | skip
          first | (have hA0 : (0 : Int) < (A.length : Int) := by omega) | (have hA0 : ¬ (0 : Int) < (A.length : Int) := by omega)
          first | (have hB0 : (0 : Int) < (B.length : Int) := by omega) | (have hB0 : ¬ (0 : Int) < (B.length : Int) := by omega) | skip
          first | (have hna : (A.length : Int) - 1 = (na : Int) := by omega) | skip
          first | (have hna2 : (na : Int) < (A.length : Int) := by omega) | skip
          first | (have hA1 : 0 < A.length := by omega) | (have hA1 : ¬ 0 < A.length := by omega)
          first | (have hB1 : 0 < B.length := by omega) | (have hB1 : ¬ 0 < B.length := by omega) | skip
          clear h0
          try clear h00
          go_wp2_with fail
          refine HW7.out.mono ?_
          rintro e w7 ⟨v7, rfl, ho7, hb7⟩
          obtain ⟨v8, w8, hrun, hb8, hcall⟩ := HFIN.out w7 v7 ho7 hb7
          have HCALL := Lib.hid hcall
          have HB8 := Lib.hid hb8
          have HRUN := Lib.hid hrun
          clear ho7 hb7 hcall hb8 hrun
          go_wp2_with (at_builtin; go_loud (go_guarded; refine wp_append_run (.tmp 109) (.tmp 110) _ rfl _ _ _ _ (by simp [Act.eval]) (by simp [Act.eval]) HRUN.out ?_))
          refine HCALL.out.mono ?_
          rintro e w9 ⟨rfl, hb9⟩
          have HB9 := Lib.hid (HB8.out.trans (hb9.mono HB8.out.size))
          clear hb9
          go_wp2
          go_ret
          exact ⟨rfl, HB9.out⟩
    · have hen : errV b ≠ 0 := by
        unfold errV
        rw [if_neg (by omega), if_neg heb]
        decide
      obtain ⟨q1, q2, q3⟩ := toks_good (l := a) (by omega) rfl hea
      simp only [q3] at h1
      have H1 := Lib.hid h1
      have H2 := Lib.hid h2
      have H3 := Lib.hid h3
      have hen2 : ((errV b) != 0) = true := by simp [hen]
      obtain ⟨E, hE⟩ : ∃ E, errV b = E := ⟨_, rfl⟩
      rw [hE] at hen2 H2
      clear h1 h2 h3 q1 q2 q3 hE hen
      go_enter Try.func5, Try.ntmps5
      go_wp2_with fail
      refine (awake_any _).mono ?_
      rintro e w1 ⟨rfl, hb1⟩
      have HB1 := Lib.hid hb1
      clear hb1
      go_wp2_with fail
      refine (H1.out _).mono ?_
      rintro e w2 ⟨v2, rfl, ⟨ao, ca, rfl, _⟩, hb2⟩
      have HB2 := Lib.hid (HB1.out.trans (hb2.mono HB1.out.size))
      clear hb2
      go_wp2_with fail
      refine (H2.out _).mono ?_
      rintro e w3 ⟨v3, rfl, _, hb3⟩
      have HB3 := Lib.hid (HB2.out.trans (hb3.mono HB2.out.size))
      clear hb3
      go_wp2_with fail
      refine (H3.out _).mono ?_
      rintro e w4 ⟨v4, rfl, _, hb4⟩
      have HB4 := Lib.hid (HB3.out.trans (hb4.mono HB3.out.size))
      clear hb4
      go_wp2
      go_ret
      exact ⟨by simp, HB4.out⟩
  · have hout : outL a = [] ∧ errV a = 3 := by
      unfold outL errV
      have h4 : ¬ 4000 < a.length := by omega
      refine ⟨?_, ?_⟩
      · rw [if_neg h4, if_neg hea]
      · rw [if_neg h4, if_neg hea]
    simp only [hout.1, hout.2] at h1
    have H1 := Lib.hid h1
    have H2 := Lib.hid h2
    have H3 := Lib.hid h3
    clear h1 h2 h3 hout
    go_enter Try.func5, Try.ntmps5
    go_wp2_with fail
    refine (awake_any _).mono ?_
    rintro e w1 ⟨rfl, hb1⟩
    have HB1 := Lib.hid hb1
    clear hb1
    go_wp2_with fail
    refine (H1.out _).mono ?_
    rintro e w2 ⟨v2, rfl, ⟨ao, ca, rfl, _⟩, hb2⟩
    have HB2 := Lib.hid (HB1.out.trans (hb2.mono HB1.out.size))
    clear hb2
    go_wp2_with fail
    refine (H2.out _).mono ?_
    rintro e w3 ⟨v3, rfl, _, hb3⟩
    have HB3 := Lib.hid (HB2.out.trans (hb3.mono HB2.out.size))
    clear hb3
    go_wp2_with fail
    refine (H3.out _).mono ?_
    rintro e w4 ⟨v4, rfl, _, hb4⟩
    have HB4 := Lib.hid (HB3.out.trans (hb4.mono HB3.out.size))
    clear hb4
    go_wp2
    go_ret
    exact ⟨by simp, HB4.out⟩
end Go.Proofs.Ytpjafemkdoeflaa
