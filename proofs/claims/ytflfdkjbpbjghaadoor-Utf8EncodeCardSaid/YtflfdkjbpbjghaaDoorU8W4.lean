/-
  utf8.walk: it yields the positions of all boundaries, in order, until the round says no more. At$1 and Offset$1 hand it on.
-/
import Derived.Test.YtflfdkjbpbjghaaDoorU8W1
import Derived.Test.YtflfdkjbpbjghaaDoorU8b
import Derived.Test.YtflfdkjbpbjghaaDoorRf
import Derived.Shelf.Abstract
import Derived.Shelf.RegionOpen
import Derived.OwnWalkIn
import Derived.TacticsInMore
import Derived.LoopNIn
import Derived.LoopIn
import Derived.Lib.OthersKept
namespace Go.Proofs.YtflfdkjbpbjghaaDoor
open Go.RowKit Go.Shelf Rf
attribute [local go_sem] Oper.semAt_some

def encP (p : U8.Pos) : Array Value := #[.agg #[.int .i64 p.1, .int .i64 p.2.1, .int .i64 p.2.2]]

theorem heap_lt {w : World} {k : Nat} {o : Obj} (h : w.heap[k]? = some o) : k < w.heap.size := (Array.getElem?_eq_some_iff.1 h).1
theorem row_cell {w : World} {b : Nat} {cs : Array Value} {t : TypeId} (h : w.heap[b]? = some (.cells cs t (0, 0))) (i : Nat) : w.cell? ⟨b, i, none⟩ = cs[i]? := cell_of_row w b i cs t (0, 0) h
theorem row_free {w : World} {b : Nat} {cs : Array Value} {t : TypeId} (h : w.heap[b]? = some (.cells cs t (0, 0))) (i : Nat) : w.frozen? ⟨b, i, none⟩ = false := by simp [World.frozen?, h]
theorem row_set {w : World} {b : Nat} {cs : Array Value} {t : TypeId} (h : w.heap[b]? = some (.cells cs t (0, 0))) (i : Nat) (u : Value) : (w.setCell ⟨b, i, none⟩ u).heap[b]? = some (.cells (cs.setIfInBounds i u) t (0, 0)) := by
  simp [World.setCell, Array.getElem?_modify, h]
theorem set_grown (w : World) (b i : Nat) (u : Value) : w.grownBy (w.setCell ⟨b, i, none⟩ u) (some b) :=
  ⟨rfl, rfl, rfl, by simp [World.setCell], fun k _ hk => Below.heap_setCell w ⟨b, i, none⟩ u k (fun e => hk (by rw [e]))⟩
theorem iter_grown (w : World) (b : Nat) (s : ByteArray) (p : Nat) : w.grownBy (w.iterAt b s p) (some b) :=
  ⟨rfl, rfl, rfl, by rw [Lib.iterAt_size]; exact Nat.le_refl _, fun k _ hk => Lib.iterAt_other w b k s p (fun e => hk (by rw [e]))⟩

set_option maxRecDepth 100000 in
set_option maxHeartbeats 2000000 in
theorem walk_yields (F : Fence) (n : Nat) (hf : F.fn 26) (hro : F.round = none) (hn : 1 ≤ n) (l : Nat) (s : ByteArray) (hs : s.size ≤ 4611686018427387904) (J Jx : List U8.Pos → World → Prop) (W : World)
    (hJ : Stays W.heap.size J)
    (hY : ∀ pre x A, J pre A → (pre ++ [x]) <+: U8.poss s.data.toList → YieldAt F (n - 1) Tryd.prog l (encP x) A fun e A' =>
      (e = .returned (.bool true) ∧ J (pre ++ [x]) A' ∧ Kept W.heap.size A A') ∨ (e = .returned (.bool false) ∧ Jx (pre ++ [x]) A'))
    (h0 : J [] W) :
    CallsIn F n Tryd.prog 26 #[.string s, .func (.yield l) #[] #[]] W fun e W' => (∃ v, e = .returned v) ∧ (J (U8.poss s.data.toList) W' ∨ ∃ pre, pre <+: U8.poss s.data.toList ∧ Jx pre W') := by
  obtain ⟨B, hB⟩ : ∃ B, B = W.heap.size := ⟨_, rfl⟩
  have HB := Lib.hid hB
  clear hB
  refine callsIn_of_wp Tryd.func26 rfl hf ?_ hro
  simp only [Tryd.ntmps26, List.size_toArray, List.length_cons, List.length_nil, Nat.reduceAdd, Nat.reduceSub, Array.replicate_succ, Array.replicate_zero, List.push_toArray, List.append_toArray, List.nil_append, List.cons_append]
  gi_wp2
  rw [← HB.out]
  gi_loopw [5] (fun _ wr => ∃ (pre : List U8.Pos) (q : U8.Pos) (o : Int), wr.heap[B]? = some (.cells #[.int .i64 o, .int .i64 q.2.1, .int .i64 q.2.2] 33 (0, 0)) ∧ wr.heap[B + 1]? = some (.stringIter s q.1) ∧
      q.1 ≤ s.size ∧ U8.poss s.data.toList = pre ++ U8.possFrom q (s.data.toList.drop q.1) ∧ J pre wr) (fun _ wr => s.size - wr.iterPos (B + 1))
  case atStart =>
    have h1 : ((W.alloc (.cells #[.int .i64 0, .int .i64 1, .int .i64 1] 33)).iter s 0).heap[B]? = some (.cells #[.int .i64 0, .int .i64 1, .int .i64 1] 33 (0, 0)) := by
      rw [HB.out]; exact (Below.heap_alloc _ _ _ (by simp)).trans (heap_alloc_new W _)
    have h2 : ((W.alloc (.cells #[.int .i64 0, .int .i64 1, .int .i64 1] 33)).iter s 0).heap[B + 1]? = some (.stringIter s 0) := by
      rw [HB.out]; have := heap_alloc_new (W.alloc (.cells #[.int .i64 0, .int .i64 1, .int .i64 1] 33)) (.stringIter s 0); rwa [World.size_alloc] at this
    refine ⟨[], (0, 1, 1), 0, h1, h2, Nat.zero_le _, by rw [List.drop_zero]; rfl, ?_⟩
    exact hJ _ _ _ none (hJ _ _ _ none h0 (World.grownBy_alloc W _ none) (fun r e => by cases e)) (World.grownBy_alloc _ _ none) (fun r e => by cases e)
  case round =>
    obtain ⟨pre, ⟨qo, ql, qc⟩, o, hP, hI, hq, hpos, hJs⟩ := hrel
    dsimp only at hP hI hq hpos
    have hmem : (qo, ql, qc) ∈ U8.poss s.data.toList := by
      rw [hpos]
      refine List.mem_append.2 (.inr ?_)
      by_cases hne : s.data.toList.drop qo = []
      · rw [hne]; simp [U8.possFrom_nil]
      · rw [U8.possFrom_step _ _ hne]; simp
    obtain ⟨⟨ok1, ok2, ok3⟩, _⟩ := U8.poss_ok _ _ hmem
    dsimp only at ok1 ok2 ok3
    clear hmem
    have st : ∀ (A A' : World) (r : Option Nat) (pp : List U8.Pos), J pp A → A.grownBy A' r → (∀ k, r = some k → B ≤ k) → J pp A' := fun A A' r pp h g hr => hJ _ _ _ r h g (fun k e => by rw [← HB.out]; exact hr k e)
    have ST := Lib.hid st
    clear st
    by_cases hp : qo < s.size
    · have hnx := fun ty => Lib.run_next_any_at (P := Tryd.prog) wr (B + 1) s qo ty hI hp
      obtain ⟨wi, hwi⟩ : ∃ wi, wr.iterAt (B + 1) s (qo + (Utf8.decode s qo).2) = wi := ⟨_, rfl⟩
      rw [hwi] at hnx
      have hPi : wi.heap[B]? = some (.cells #[.int .i64 o, .int .i64 ql, .int .i64 qc] 33 (0, 0)) := by rw [← hwi]; exact (Lib.iterAt_other _ _ _ _ _ (by omega)).trans hP
      have hIi : wi.heap[B + 1]? = some (.stringIter s (qo + (Utf8.decode s qo).2)) := by rw [← hwi]; exact Lib.iterAt_heap _ _ _ _ _ hI
      have hJi : J pre wi := by rw [← hwi]; exact ST.out _ _ _ _ hJs (iter_grown _ _ _ _) (fun r e => by cases e; omega)
      have him : wr.iterPos (B + 1) = qo := by simp [World.iterPos, hI]
      clear hwi hP hI hJs
      have c0 := row_cell hPi 0
      have c1 := row_cell hPi 1
      have c2 := row_cell hPi 2
      have f0 := row_free hPi 0
      simp only [List.getElem?_toArray, List.getElem?_cons_zero, List.getElem?_cons_succ] at c0 c1 c2
      have hlen : qo < s.data.toList.length := by rw [U8.size_len]; exact hp
      have hnext := U8.poss_round hpos hlen
      have hpre : (pre ++ [(qo, ql, qc)]) <+: U8.poss s.data.toList := ⟨_, hnext.symm⟩
      have hJw := ST.out _ _ _ _ hJi (set_grown wi B 0 (.int .i64 qo)) (fun r e => by cases e; omega)
      have hYq := hY pre (qo, ql, qc) (wi.setCell ⟨B, 0, none⟩ (.int .i64 qo)) hJw hpre
      have hPs := row_set hPi 0 (.int .i64 qo)
      simp only [List.setIfInBounds_toArray, List.set_cons_zero] at hPs
      have hIs := (Below.heap_setCell wi ⟨B, 0, none⟩ (.int .i64 qo) (B + 1) (by simp)).trans hIi
      obtain ⟨fn, tmps, assign, body, hy, hR⟩ := hYq
      dsimp only [encP] at hy
      have hw1 := U8.width_le hlen
      rw [Lib.decodeL_drop, U8.size_len] at hw1
      have hw0 := Lib.decode_width_pos s qo hp
      rw [Lib.decodeL_drop] at hnext
      have HR := Lib.hid hR
      have HPs := Lib.hid hPs
      have HIs := Lib.hid hIs
      have Hnext := Lib.hid hnext
      have HM := Lib.hid him
      clear hR hPi hIi hpos hnext hPs hIs him hJi hJw hpre
      by_cases hd : (Utf8.decode s qo).1 = 10
      · have hd1 : (((Utf8.decode s qo).1 : Int) == 10) = true := by rw [hd]; rfl
        have HD := Lib.hid hd
        clear hd
        gi_wp2
        refine HR.out.mono ?_
        rintro e W3 (⟨rfl, hJ3, hk3⟩ | ⟨rfl, hJx3⟩)
        · have hP3 := hk3.at_ (by rw [← HB.out]; omega) HPs.out
          have hI3 := hk3.at_ (by rw [← HB.out]; omega) HIs.out
          have d1 := row_cell hP3 1
          have d2 := row_cell hP3 2
          have g1 := row_free hP3 1
          have g2 := row_free hP3 2
          simp only [List.getElem?_toArray, List.getElem?_cons_zero, List.getElem?_cons_succ] at d1 d2
          have HP3 := Lib.hid hP3
          have HI3 := Lib.hid hI3
          have HJ3 := Lib.hid hJ3
          clear hP3 hI3 hk3 hJ3 c0 c1 c2 f0 hnx
          gi_wp2
          have hPn := row_set (row_set (row_set HP3.out 2 (.int .i64 (qc + 1))) 1 (.int .i64 (ql + 1))) 2 (.int .i64 1)
          simp only [List.setIfInBounds_toArray, List.set_cons_zero, List.set_cons_succ] at hPn
          have hIn := (Below.heap_setCell _ ⟨B, 2, none⟩ (.int .i64 1) (B + 1) (by simp)).trans ((Below.heap_setCell _ ⟨B, 1, none⟩ (.int .i64 (ql + 1)) (B + 1) (by simp)).trans ((Below.heap_setCell _ ⟨B, 2, none⟩ (.int .i64 (qc + 1)) (B + 1) (by simp)).trans HI3.out))
          have hJn := ST.out _ _ _ _ (ST.out _ _ _ _ (ST.out _ _ _ _ HJ3.out (set_grown _ B 2 (.int .i64 (qc + 1))) (fun r e => by cases e; omega)) (set_grown _ B 1 (.int .i64 (ql + 1))) (fun r e => by cases e; omega)) (set_grown _ B 2 (.int .i64 1)) (fun r e => by cases e; omega)
          have hst : U8.stepP (qo, ql, qc) (Utf8.decode s qo) = (qo + (Utf8.decode s qo).2, ql + 1, 1) := by unfold U8.stepP; rw [if_pos HD.out]
          have hn := Hnext.out
          rw [hst] at hn
          refine ⟨⟨pre ++ [(qo, ql, qc)], (qo + (Utf8.decode s qo).2, ql + 1, 1), qo, hPn, hIn, hw1, hn, hJn⟩, ?_⟩
          rw [HM.out]
          simp only [World.iterPos, hIn]
          omega
        · gi_wp2
          refine bodyPost_ret (results_none rfl _ _ _) rfl ?_
          exact ⟨⟨_, rfl⟩, .inr ⟨pre ++ [(qo, ql, qc)], ⟨_, Hnext.out.symm⟩, hJx3⟩⟩
      · have hd1 : (((Utf8.decode s qo).1 : Int) == 10) = false := by simp; omega
        have HD := Lib.hid hd
        clear hd
        gi_wp2
        refine HR.out.mono ?_
        rintro e W3 (⟨rfl, hJ3, hk3⟩ | ⟨rfl, hJx3⟩)
        · have hP3 := hk3.at_ (by rw [← HB.out]; omega) HPs.out
          have hI3 := hk3.at_ (by rw [← HB.out]; omega) HIs.out
          have d1 := row_cell hP3 1
          have d2 := row_cell hP3 2
          have g1 := row_free hP3 1
          have g2 := row_free hP3 2
          simp only [List.getElem?_toArray, List.getElem?_cons_zero, List.getElem?_cons_succ] at d1 d2
          have HP3 := Lib.hid hP3
          have HI3 := Lib.hid hI3
          have HJ3 := Lib.hid hJ3
          clear hP3 hI3 hk3 hJ3 c0 c1 c2 f0 hnx
          gi_wp2
          have hPn := row_set HP3.out 2 (.int .i64 (qc + 1))
          simp only [List.setIfInBounds_toArray, List.set_cons_zero, List.set_cons_succ] at hPn
          have hIn := (Below.heap_setCell _ ⟨B, 2, none⟩ (.int .i64 (qc + 1)) (B + 1) (by simp)).trans HI3.out
          have hJn := ST.out _ _ _ _ HJ3.out (set_grown _ B 2 (.int .i64 (qc + 1))) (fun r e => by cases e; omega)
          have hst : U8.stepP (qo, ql, qc) (Utf8.decode s qo) = (qo + (Utf8.decode s qo).2, ql, qc + 1) := by unfold U8.stepP; rw [if_neg HD.out]
          have hn := Hnext.out
          rw [hst] at hn
          refine ⟨⟨pre ++ [(qo, ql, qc)], (qo + (Utf8.decode s qo).2, ql, qc + 1), qo, hPn, hIn, hw1, hn, hJn⟩, ?_⟩
          rw [HM.out]
          simp only [World.iterPos, hIn]
          omega
        · gi_wp2
          refine bodyPost_ret (results_none rfl _ _ _) rfl ?_
          exact ⟨⟨_, rfl⟩, .inr ⟨pre ++ [(qo, ql, qc)], ⟨_, Hnext.out.symm⟩, hJx3⟩⟩
    · have hqe : qo = s.size := by omega
      have hnx := fun ty => Lib.run_next_end_at (P := Tryd.prog) wr (B + 1) s qo ty hI hp
      have c0 := row_cell hP 0
      have c1 := row_cell hP 1
      have c2 := row_cell hP 2
      have f0 := row_free hP 0
      simp only [List.getElem?_toArray, List.getElem?_cons_zero, List.getElem?_cons_succ] at c0 c1 c2
      have hend := U8.poss_end hpos (by dsimp only; rw [U8.size_len]; exact hqe)
      have hJw := ST.out _ _ _ _ hJs (set_grown wr B 0 (.int .i64 s.size)) (fun r e => by cases e; omega)
      subst hqe
      have hYq := hY pre (s.size, ql, qc) (wr.setCell ⟨B, 0, none⟩ (.int .i64 s.size)) hJw ⟨[], by rw [hend, List.append_nil]⟩
      obtain ⟨fn, tmps, assign, body, hy, hR⟩ := hYq
      dsimp only [encP] at hy
      have HR := Lib.hid hR
      have HE := Lib.hid hend
      clear hR hend hpos hJw hJs hP hI
      gi_wp2
      refine HR.out.mono ?_
      rintro e W3 (⟨rfl, hJ3, hk3⟩ | ⟨rfl, hJx3⟩)
      · have HJ3 := Lib.hid hJ3
        clear hJ3 hk3 hnx c0 c1 c2 f0
        gi_wp2
        go_end0
        exact ⟨⟨_, rfl⟩, .inl (by rw [HE.out]; exact HJ3.out)⟩
      · have HJ3 := Lib.hid hJx3
        clear hJx3 hnx c0 c1 c2 f0
        gi_wp2
        go_end0
        exact ⟨⟨_, rfl⟩, .inr ⟨pre ++ [(s.size, ql, qc)], ⟨[], by rw [HE.out, List.append_nil]⟩, HJ3.out⟩⟩
end Go.Proofs.YtflfdkjbpbjghaaDoor
