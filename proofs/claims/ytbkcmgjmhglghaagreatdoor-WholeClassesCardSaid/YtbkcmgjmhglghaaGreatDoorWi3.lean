/-
  decide.search.
-/
import Derived.Test.YtbkcmgjmhglghaaGreatDoorWi2
import Derived.Test.YtbkcmgjmhglghaaGreatDoorWm1
namespace Go.Proofs.YtbkcmgjmhglghaaGreatDoor
open Go.RowKit

/-- The relations in a row of one's own. -/
def RelsOwn (c : Cnd) (B : Nat) (w : World) (e : Ending) (w' : World) : Prop := ∃ (v' : Value) (ps : List RelV), e = .returned v' ∧ ps.map (·.1) = c.flatten ∧ SpansAt w B ps ∧ w'.ownsRow w.heap.size 51 4 v' ps.length (relsC ps) ∧ Below w.heap.size w w'
set_option maxRecDepth 100000 in
set_option maxHeartbeats 1600000 in
theorem relations_own (v : Value) (c : Cnd) (B : Nat) (w : World) (hv : IsCond w B v c) (hB : B ≤ w.heap.size) (hc : condB c = true) :
    Calls Tryz.prog 26 #[v] w (RelsOwn c B w) := by
  obtain ⟨_, hl6, ht, hl⟩ := condB_parts hc
  obtain ⟨ao, cap, rfl, hcl⟩ := hv
  obtain ⟨n, hn⟩ : ∃ n, n = c.length := ⟨_, rfl⟩
  rw [← hn] at hcl hl6
  rw [← hn]
  obtain ⟨j0, hj, hz0, hz1, hz2⟩ := info_parts Tryz.infoRel
  have HC := Lib.hid hcl
  have HN := Lib.hid hn
  have HL := Lib.hid hl
  have HT := Lib.hid ht
  have HCB := Lib.hid hB
  clear hcl hn hl hc ht hB
  go_enter Tryz.func26, Tryz.ntmps26
  go_wp2
  go_loopw [3, 8] (fun rv iv wr => ∃ (i : Nat) (ps : List RelV), i ≤ n ∧ iv = .int .i64 i ∧ ps.map (·.1) = (c.take i).flatten ∧ SpansAt w B ps ∧ wr.ownsRow w.heap.size 51 4 rv ps.length (relsC ps) ∧ Below w.heap.size w wr) (fun _ iv _ => n - (intOf iv).toNat)
  case atStart => exact ⟨0, [], Nat.zero_le _, rfl, by simp, fun _ h => by simp at h, World.ownsRow_nil _ _ _ _, Below.refl _ _⟩
  case round =>
    obtain ⟨i, ps, hi, rfl, hps, hsp, hown, hb⟩ := hrel
    have hpl : ps.length ≤ 6 := by
      have := flat_take_le c i
      rw [← hps, List.length_map] at this
      have := HT.out
      omega
    have HPS := Lib.hid hps
    have HSP := Lib.hid hsp
    have HO := Lib.hid hown
    have HBW := Lib.hid hb
    have i0 : (0 : Int) ≤ (i : Int) := by omega
    by_cases hlt : i < n
    · have i1 : (i : Int) < (n : Int) := by omega
      have hil : i < c.length := by have := HN.out; omega
      obtain ⟨l, hx'⟩ : ∃ l, c[i]? = some l := ⟨_, List.getElem?_eq_getElem hil⟩
      obtain ⟨b, o, rfl, hbB, hcl⟩ := HC.out (by omega)
      obtain ⟨rv', d0, hrv⟩ := hcl i l hx'
      have e0 := (hb.cell (p := ⟨b, o + i, none⟩) (by show b < w.heap.size; have := HCB.out; omega)).trans d0
      obtain ⟨l0, l6⟩ := HL.out i l hx'
      obtain ⟨qs, hq1, hq2, ao2, cap2, rfl, hq3⟩ := rels_rows hrv
      obtain ⟨b2, o2, rfl, hb2, hq4⟩ := hq3 l0
      obtain ⟨m, hm⟩ : ∃ m, m = l.length := ⟨_, rfl⟩
      rw [← hm] at l0 l6 e0
      have hml : m = qs.length := by rw [hm, ← hq1, List.length_map]
      have hqc : ∀ j u, (relsC qs)[j]? = some u → wr.cell? ((⟨b2, o2, none⟩ : Addr).add j) = some u := fun j u hu => by
        rw [addr_add]
        exact (HBW.out.cell (p := ⟨b2, o2 + j, none⟩) (by show b2 < w.heap.size; have := HCB.out; omega)).trans (hq4 j u hu)
      have h1 : ∀ u ∈ relsC qs, u.oneCell' = true := fun u hu => by
        obtain ⟨p, hp, hu⟩ := List.mem_flatMap.1 hu
        simp [relC] at hu
        rcases hu with rfl | rfl | rfl | rfl
        · rfl
        · rfl
        · rfl
        · exact (hq2 p hp).slice
      have hql : (relsC qs).length = m * 4 := by unfold relsC; rw [flat_len relC 4 relC_len, hml]
      have HX := Lib.hid hx'
      have HQ1 := Lib.hid hq1
      have HQ2 := Lib.hid hq2
      have HML := Lib.hid hml
      have HSZ := Lib.hid HBW.out.size
      clear hcl d0 hx' hb hrv hq1 hq2 hq3 hq4 hml hm hps hsp
      go_wp2_with (at_builtin; refine wpList_append_own _ rfl _ _ 52 rfl w.heap.size 51 j0 (.agg #[.int .i64 0, .int .i64 0, .bool false, .slice none 0 0]) 4 48 Tryz.underlying52 hj hz0 hz1 hz2 rfl (by decide) _ _ _ rfl hown ⟨b2, o2, none⟩ m cap2 (relsC qs) rfl hql hqc h1 (by unfold maxLen; omega) (by omega) HSZ.out ?_; intro v' w9 hE2 hg2 _)
      go_roundw
      case rel =>
        refine ⟨i + 1, ps ++ qs, by omega, by go_num, ?_, ?_, ?_, ?_⟩
        · rw [List.map_append, HPS.out, HQ1.out, take_succ_flat HX.out]
        · intro p hp
          rcases List.mem_append.1 hp with hp | hp
          · exact HSP.out p hp
          · exact HQ2.out p hp
        · rw [List.length_append, ← HML.out, relsC_app]
          exact hE2
        · exact HBW.out.trans (grown_belowR hg2 HO.out HSZ.out)
      case measure => simp [intOf] <;> omega
    · have i1 : ¬ (i : Int) < (n : Int) := by omega
      have hd : c.take i = c := List.take_of_length_le (by have := HN.out; omega)
      rw [hd] at hps
      have HPS2 := Lib.hid hps
      clear hd hb hps hsp
      go_wp2
      go_ret
      exact ⟨_, ps, rfl, HPS2.out, HSP.out, HO.out, HBW.out⟩
theorem AskF.below {fg n : Nat} {F : List Bool → Bool} {w w' : World} (h : AskF fg F n w) (hb : Below w.heap.size w w') : AskF fg F n w' := fun W k bs hW hbs hl => h W k bs (hb.trans (hW.mono hb.size)) hbs hl
theorem made_ints (n : Nat) (hn : n ≤ 1000) (w : World) : (Instr.makeSlice 85 (.int .i64 (n : Int)) (.int .i64 (n : Int))).run Tryz.prog w = .ok (.slice (some ⟨w.heap.size, 0, none⟩) n n) (w.alloc (.cells ((List.replicate n 0).map fun (k : Nat) => Value.int .i64 k).toArray 3)) := by
  obtain ⟨j0, hj, hz0, hz1, hz2⟩ := info_parts Tryz.infoInt
  have hr := run_make (P := Tryz.prog) (w := w) 85 3 j0 (.int .i64 0) Tryz.underlying85 hj hz0 .i64 .i64 n n (by omega) (Int.le_refl _) (by rw [hz2]; omega) (by omega)
  simp only [Int.toNat_natCast, hz1] at hr
  have e : ((List.replicate n 0).map fun (k : Nat) => Value.int .i64 k).toArray = madeCells #[.int .i64 0] (n * 1) := by
    apply Array.ext'
    apply List.ext_getElem?
    intro i
    by_cases hi : i < n
    · simp [madeCells, hi, Nat.mod_one]
    · rw [List.getElem?_eq_none (by simp; omega), List.getElem?_eq_none (by simp [size_madeCells]; omega)]
  rw [e]
  exact hr
/-- While search goes through the conditions. -/
structure SrR (w : World) (s2 fg n B : Nat) (v : Value) (cs : List Cnd) (i : Nat) (wr : World) (av : Value) (ps : List RelV) (L : List Nat) : Prop where
  bl : wr.heap[w.heap.size]? = some (.cells #[v] 28 (0, 0))
  bff : wr.heap[w.heap.size + 1]? = some (.cells #[.func (.func fg) #[] #[]] 64 (0, 0))
  bf : wr.heap[s2 + 1]? = some (.cells #[.slice (some ⟨s2, 0, none⟩) n n] 85 (0, 0))
  fr : IntRow wr s2 L
  len : L.length = n
  rel : ps.map (·.1) = allRel (cs.take i)
  sp : SpansAt wr B ps
  own : wr.ownsRow (s2 + 2) 51 4 av ps.length (relsC ps)
  bel : Below w.heap.size w wr
  size : s2 + 2 ≤ wr.heap.size
  hs2 : s2 = w.heap.size + 2
  offs : ∀ k, k < i → L.getD k 0 = offs cs k
section
variable {w wr wr' : World} {s2 fg n B i j : Nat} {v av av' : Value} {cs : List Cnd} {ps ps' : List RelV} {L : List Nat}
theorem SrR.move (h : SrR w s2 fg n B v cs i wr av ps L) (hb : Below (s2 + 2) wr wr') (ho : wr'.ownsRow (s2 + 2) 51 4 av' ps'.length (relsC ps')) (hrel : ps'.map (·.1) = allRel (cs.take j)) (hsp : SpansAt wr' B ps') (hoffs : ∀ k, k < j → L.getD k 0 = Go.Proofs.YtbkcmgjmhglghaaGreatDoor.offs cs k) : SrR w s2 fg n B v cs j wr' av' ps' L := by
  have h2 := h.hs2
  exact ⟨(hb.block _ (by omega)).trans h.bl, (hb.block _ (by omega)).trans h.bff, (hb.block _ (by omega)).trans h.bf, (hb.block _ (by omega)).trans h.fr, h.len, hrel, hsp, ho, h.bel.trans (hb.mono (by omega)), Nat.le_trans h.size hb.size, h.hs2, hoffs⟩
theorem SrR.below (h : SrR w s2 fg n B v cs i wr av ps L) (hB : B ≤ w.heap.size) (hb : Below wr.heap.size wr wr') : SrR w s2 fg n B v cs i wr' av ps L :=
  h.move (hb.mono h.size) (own_grow h.own (grown_below hb) (by cases av.ownBlock <;> simp)) h.rel (fun p hp => (h.sp p hp).below (hb.mono (Nat.le_trans hB h.bel.size))) h.offs
theorem SrR.plen (h : SrR w s2 fg n B v cs i wr av ps L) : ps.length = Go.Proofs.YtbkcmgjmhglghaaGreatDoor.offs cs i := by
  unfold Go.Proofs.YtbkcmgjmhglghaaGreatDoor.offs
  rw [← h.rel, List.length_map]
theorem SrR.setStep (h : SrR w s2 fg n B v cs i wr av ps L) (hB : B ≤ w.heap.size) (hi : i < n) : SrR w s2 fg n B v cs i (wr.setCell ⟨s2, i, none⟩ (.int .i64 ((ps.length : Nat) : Int))) av ps (L.set i ps.length) ∧ (L.set i ps.length).getD i 0 = Go.Proofs.YtbkcmgjmhglghaaGreatDoor.offs cs i := by
  have h2 := h.hs2
  have hg : Below w.heap.size w (wr.setCell ⟨s2, i, none⟩ (.int .i64 ((ps.length : Nat) : Int))) := h.bel.setCell (by show w.heap.size ≤ s2; omega) _
  have hbB : Below B wr (wr.setCell ⟨s2, i, none⟩ (.int .i64 ((ps.length : Nat) : Int))) := (Below.refl _ _).setCell (by show B ≤ s2; omega) _
  refine ⟨⟨?_, ?_, ?_, h.fr.set i ps.length, by rw [List.length_set]; exact h.len, h.rel, fun p hp => (h.sp p hp).below hbB, own_grow h.own (grown_setCell wr ⟨s2, i, none⟩ _) ?_, hg, by have := h.size; simpa [World.setCell] using this, h.hs2, fun k hk => ?_⟩, ?_⟩
  · rw [Below.heap_setCell _ _ _ _ (by show w.heap.size ≠ s2; omega)]
    exact h.bl
  · rw [Below.heap_setCell _ _ _ _ (by show w.heap.size + 1 ≠ s2; omega)]
    exact h.bff
  · rw [Below.heap_setCell _ _ _ _ (by show s2 + 1 ≠ s2; omega)]
    exact h.bf
  · rcases hv : av.ownBlock with _ | q
    · exact .inl rfl
    · refine .inr fun e => ?_
      have e' : q = s2 := by injection e
      have := own_ge h.own hv
      omega
  · rw [List.getD_eq_getElem?_getD, List.getElem?_set_ne (by omega), ← List.getD_eq_getElem?_getD]
    exact h.offs k hk
  · rw [List.getD_eq_getElem?_getD, List.getElem?_set_self (by rw [h.len]; exact hi)]
    exact h.plen
end
/-- What search tells. -/
def SearchP (F : List Bool → Bool) (cs : List Cnd) (w : World) (e : Ending) (w' : World) : Prop :=
  ∃ s ok, e = .returned (.tuple #[.string s, .bool ok]) ∧ Below w.heap.size w w' ∧ (ok = false → ∀ x : Num, x.OK → F (cs.map fun c => condH c x) = false)
set_option maxRecDepth 100000 in
set_option maxHeartbeats 6400000 in
theorem search_any (v : Value) (cs : List Cnd) (B : Nat) (w : World) (hv : IsConds w B v cs) (hB : B ≤ w.heap.size) (hc : ∀ c ∈ cs, condB c = true) (h10 : cs.length ≤ 10) (ht : Tab w) (fg : Nat) (ef : ∀ args W, (callFunc fg args).run Tryz.prog W = .ok (.enter fg args) W) (F : List Bool → Bool) (hF : AskF fg F cs.length w) :
    Calls Tryz.prog 23 #[v, .func (.func fg) #[] #[]] w (SearchP F cs w) := by
  have hv' := hv
  obtain ⟨ao, cap, cvs, rfl, hcv, hq⟩ := condsAt hv
  obtain ⟨n, hn⟩ : ∃ n, n = cs.length := ⟨_, rfl⟩
  rw [← hn] at hq h10 hF
  obtain ⟨v, hvv⟩ : ∃ v : Value, v = .slice ao cs.length cap := ⟨_, rfl⟩
  rw [← hvv] at hv'
  rw [← hn] at hvv ⊢
  obtain ⟨j0, hj, hz0, hz1, hz2⟩ := info_parts Tryz.infoRel
  have hmk := fun W => made_ints n (by omega) W
  obtain ⟨TI, hTI⟩ : ∃ TI, TI = ((List.replicate n 0).map fun (k : Nat) => Value.int .i64 k).toArray := ⟨_, rfl⟩
  rw [← hTI] at hmk
  have HTI := Lib.hid hTI
  have HV := Lib.hid hv'
  have HVV := Lib.hid hvv
  have HCV := Lib.hid hcv
  have HQ := Lib.hid hq
  have HN := Lib.hid hn
  have HC := Lib.hid hc
  have HB := Lib.hid hB
  have HT := Lib.hid ht
  have HF := Lib.hid hF
  clear hv hv' hvv hcv hq hn hc hB ht hF hTI
  go_enter Tryz.func23, Tryz.ntmps23
  go_upto_region 1 with fail
  obtain ⟨w2, hw2⟩ : ∃ w2, w2 = (w.alloc (.cells #[.slice ao n cap] 28)).alloc (.cells #[.func (.func fg) #[] #[]] 64) := ⟨_, rfl⟩
  obtain ⟨p0, p1, pb, ps⟩ := alloc2 w #[.slice ao n cap] #[.func (.func fg) #[] #[]] 28 64
  rw [← hw2] at p0 p1 pb ps
  rw [← hw2]
  have c0 : w2.cell? ⟨w.heap.size, 0, none⟩ = some (.slice ao n cap) := by rw [Lib.cell_of_heap p0]; rfl
  obtain ⟨s2, hs2⟩ : ∃ s2, s2 = w2.heap.size := ⟨_, rfl⟩
  obtain ⟨wS, hwS⟩ : ∃ wS, wS = (w2.alloc (.cells TI 3)).alloc (.cells #[.slice (some ⟨s2, 0, none⟩) n n] 85) := ⟨_, rfl⟩
  obtain ⟨q0, q1, qb, qs⟩ := alloc2 w2 TI #[.slice (some ⟨s2, 0, none⟩) n n] 3 85
  rw [← hwS] at q0 q1 qb qs
  rw [← hs2] at q0 q1 qs
  have hsr : SrR w s2 fg n B (.slice ao n cap) cs 0 wS (.slice none 0 0) [] (List.replicate n 0) := by
    refine ⟨(qb.block _ (by omega)).trans p0, (qb.block _ (by omega)).trans p1, q1, ?_, by simp, by simp [allRel], fun _ h => by simp at h, World.ownsRow_nil _ _ _ _, pb.trans (qb.mono pb.size), by omega, by omega, fun k hk => by omega⟩
    unfold IntRow
    rw [← HTI.out]
    exact q0
  have cS : wS.cell? ⟨w.heap.size, 0, none⟩ = some (.slice ao n cap) := by rw [Lib.cell_of_heap hsr.bl]; rfl
  have HSR := Lib.hid hsr
  clear hw2 p0 p1 pb ps q0 q1 qb qs hsr
  go_upto_region 3 with fail
  rw [← hs2, ← hwS]
  clear hwS hs2 c0
  go_wp2
  go_loopw [6, 15] (fun av iv wr => ∃ (i : Nat) (ps : List RelV) (L : List Nat), i ≤ n ∧ iv = .int .i64 i ∧ SrR w s2 fg n B (.slice ao n cap) cs i wr av ps L) (fun _ iv _ => n - (intOf iv).toNat)
  case atStart => exact ⟨0, _, _, Nat.zero_le _, rfl, HSR.out⟩
  case round =>
    obtain ⟨i, ps, L, hi, rfl, hsr⟩ := hrel
    have i0 : (0 : Int) ≤ (i : Int) := by omega
    obtain ⟨aa, ac, rfl⟩ := slice_form hsr.own
    by_cases hlt : i < n
    · have i1 : (i : Int) < (n : Int) := by omega
      obtain ⟨c, hcc⟩ : ∃ c, cs[i]? = some c := ⟨_, List.getElem?_eq_getElem (by have := HN.out; omega)⟩
      obtain ⟨b, o, rfl, hbB, hqq⟩ := HQ.out (by omega)
      have a0 := (hsr.bel.cell (p := ⟨b, o + i, none⟩) (by show b < w.heap.size; have := HB.out; omega)).trans (hqq i hlt)
      have hcv := HCV.out i c hcc
      generalize cvs i = cv at a0 hcv
      have hcB := HC.out c (List.mem_of_getElem? hcc)
      have x1 : wr.cell? ⟨s2 + 1, 0, none⟩ = some (.slice (some ⟨s2, 0, none⟩) n n) := by rw [Lib.cell_of_heap hsr.bf]; rfl
      have x2 := hsr.fr.cell (i := i) (by rw [hsr.len]; exact hlt)
      have x3 := hsr.fr.frozen i
      obtain ⟨hst, hst2⟩ := hsr.setStep HB.out hlt
      obtain ⟨wq, hwq⟩ : ∃ wq, wq = wr.setCell ⟨s2, i, none⟩ (.int .i64 ((ps.length : Nat) : Int)) := ⟨_, rfl⟩
      rw [← hwq] at hst
      have hrel := relations_own cv c B wq (hcv.below (hst.bel.mono HB.out)) (Nat.le_trans HB.out hst.bel.size) hcB
      obtain ⟨hl0, _, hl6, hll⟩ := condB_parts hcB
      have hfl : 0 < c.flatten.length := by
        rw [← total_flatten]
        obtain ⟨l0, hl1⟩ : ∃ l0, c[0]? = some l0 := ⟨_, List.getElem?_eq_getElem hl0⟩
        have h1 := (hll 0 l0 hl1).1
        have h2 := offs_le (cs := [c]) (i := 0) (c := c) rfl
        have h3 : l0.length ≤ total c := by
          have := flat_take_le c 1
          rw [take_succ_flat hl1] at this
          simp at this
          exact this
        omega
      have hfl6 : c.flatten.length ≤ 6 := by rw [← total_flatten]; exact hl6
      obtain ⟨ca, cp, hcvs, _⟩ := hcv
      subst hcvs
      obtain ⟨nc, hnc⟩ : ∃ nc, nc = c.length := ⟨_, rfl⟩
      rw [← hnc] at a0 hrel
      have hps60 : ps.length ≤ 60 := by
        rw [hsr.plen]
        have h1 := offs_le hcc
        have h2 := allRel_len HC.out
        have := HN.out
        omega
      have HCC := Lib.hid hcc
      have HST := Lib.hid hst
      have HST2 := Lib.hid hst2
      have HREL := Lib.hid hrel
      have HFL := Lib.hid hfl
      have HFL6 := Lib.hid hfl6
      clear hcc hqq hcB hst hst2 hrel hl0 hl6 hll hfl hfl6 hnc hsr hbB
      go_upto_region 7 with fail
      rw [← hwq]
      clear hwq a0 x1 x2 x3
      go_wp2_with (first
        | (go_at_call 26
           refine (HREL.out).mono ?_
           rintro e w5 ⟨v', qs, rfl, hq1, hq2, hq3, hq4⟩
           have hql : qs.length = c.flatten.length := by rw [← hq1, List.length_map]
           obtain ⟨g5, cap5, rfl, hg5b, hg5l⟩ := hq3.form (by have := HFL.out; omega)
           have hq6 : qs.length ≤ 6 := by have := HFL6.out; omega
           have hqc : ∀ j u, (relsC qs)[j]? = some u → w5.cell? ((⟨g5, 0, none⟩ : Addr).add j) = some u := fun j u hu => by
             rw [addr_add, Nat.zero_add]
             exact (own_cells hq3 hu).2.1
           have h1 : ∀ u ∈ relsC qs, u.oneCell' = true := fun u hu => by
             obtain ⟨p, hp, hu⟩ := List.mem_flatMap.1 hu
             simp [relC] at hu
             rcases hu with rfl | rfl | rfl | rfl
             · rfl
             · rfl
             · rfl
             · exact (hq2 p hp).slice
           have hqll : (relsC qs).length = qs.length * 4 := by unfold relsC; rw [flat_len relC 4 relC_len]
           have hst5 := HST.out.below HB.out hq4
           have hown5 := hst5.own
           have HST5 := Lib.hid hst5
           have HSZ := Lib.hid hst5.size
           have HQ1 := Lib.hid hq1
           have HQ2 := Lib.hid (fun p hp => (hq2 p hp).below (hq4.mono (Nat.le_trans HB.out HST.out.bel.size)))
           have hq0 : 0 < qs.length := by have := HFL.out; omega
           clear hq1 hq2 hq3 hq4 hst5 hql hg5b hg5l)
        | (at_builtin; refine wpList_append_own _ rfl _ _ 52 rfl (s2 + 2) 51 j0 (.agg #[.int .i64 0, .int .i64 0, .bool false, .slice none 0 0]) 4 48 Tryz.underlying52 hj hz0 hz1 hz2 rfl (by decide) _ _ _ rfl hown5 ⟨g5, 0, none⟩ qs.length cap5 (relsC qs) rfl hqll hqc h1 (by unfold maxLen; omega) (by omega) HSZ.out ?_; intro v9 w9 hE9 hg9 _))
      go_roundw
      case rel =>
        have hb9 := grown_belowR hg9 HST5.out.own HSZ.out
        refine ⟨i + 1, ps ++ qs, L.set i ps.length, by omega, by go_num, HST5.out.move hb9 ?_ ?_ (fun p hp => ?_) (fun k hk => ?_)⟩
        · rw [List.length_append, relsC_app]
          exact hE9
        · rw [List.map_append, HST5.out.rel, HQ1.out, take_snoc HCC.out, allRel_snoc]
        · rcases List.mem_append.1 hp with hp | hp
          · exact (HST5.out.sp p hp).below (hb9.mono (by have := HST5.out.hs2; have := HB.out; omega))
          · exact (HQ2.out p hp).below (hb9.mono (by have := HST5.out.hs2; have := HB.out; omega))
        · by_cases hki : k < i
          · exact HST5.out.offs k hki
          · have : k = i := by omega
            subst this
            exact HST2.out
      case measure => simp [intOf] <;> omega
    · have i1 : ¬ (i : Int) < (n : Int) := by omega
      have hin : n = i := by omega
      subst hin
      have h10l : cs.length ≤ 10 := by have := HN.out; omega
      have h60 : (allRel cs).length ≤ 60 := by have := allRel_len HC.out; omega
      have hrl : IsRels wr wr.heap.size (.slice aa ps.length ac) (allRel cs) := by
        have h1 := (own_rels hsr.own hsr.sp (Nat.le_trans HB.out hsr.bel.size)).1
        rw [hsr.rel, HN.out, List.take_length] at h1
        exact h1
      have hse : SeR wr w.heap.size (s2 + 1) (w.heap.size + 1) s2 fg n B (.slice ao n cap) cs := by
        refine ⟨by rw [Lib.cell_of_heap hsr.bl]; rfl, by rw [Lib.cell_of_heap hsr.bf]; rfl, by rw [Lib.cell_of_heap hsr.bff]; rfl, fun k hk => ?_, ?_, Nat.le_trans HB.out hsr.bel.size⟩
        · rw [hsr.fr.cell (by rw [hsr.len]; exact hk), hsr.offs k hk]
        · rw [← HVV.out]
          exact HV.out.below (hsr.bel.mono HB.out)
      have hnew := newClasses_any (.slice aa ps.length ac) (allRel cs) wr.heap.size wr hrl (Nat.le_refl _) (allRel_relB HC.out) h60 (HT.out.below hsr.bel HT.out.lt)
      have HBW := Lib.hid hsr.bel
      have HRL := Lib.hid hrl
      have HSE := Lib.hid hse
      have HNEW := Lib.hid hnew
      have H60 := Lib.hid h60
      have H10L := Lib.hid h10l
      clear hsr hrl hse hnew h60 h10l
      go_wp2_with (first
        | (go_at_call 51
           refine (HNEW.out).mono ?_
           rintro e w5 ⟨rfl, wv, ws, fv, fs, hx, hp1, hp2, hb5, hl1, hok1, hd1, hl2, hok2, hd2⟩
           have hfirst := first_any wr.heap.size (.slice aa ps.length ac) wv fv (allRel cs) ws fs wr.heap.size wr.heap.size w5 hx hp1 hp2 (HRL.out.below hb5) hb5.size H60.out hok1 hok2 hl1 hl2 53 #[.pointer (some ⟨w.heap.size, 0, none⟩), .pointer (some ⟨s2 + 1, 0, none⟩), .pointer (some ⟨w.heap.size + 1, 0, none⟩)] (fun _ _ => by kernel_rfl) (fun T => F (condsT cs T)) (search1_any w.heap.size (s2 + 1) (w.heap.size + 1) s2 fg n B (.slice ao n cap) cs ef F w5 (HSE.out.below hb5) HN.out HC.out h10 (HF.out.below (HBW.out.trans (hb5.mono HBW.out.size))))
           have HFIRST := Lib.hid hfirst
           have HD1 := Lib.hid hd1
           have HD2 := Lib.hid hd2
           have HB5 := Lib.hid hb5
           clear hx hp1 hp2 hb5 hl1 hok1 hd1 hl2 hok2 hd2 hfirst)
        | (go_at_call 52
           refine (HFIRST.out).mono ?_
           rintro e w6 ⟨s, ok, rfl, hb6, hh⟩))
      go_ret2
      refine ⟨s, ok, rfl, HBW.out.trans ((HB5.out.trans (hb6.mono HB5.out.size)).mono HBW.out.size), fun h x hx => ?_⟩
      obtain ⟨p, hp, q, hq, e1⟩ := conds_num HC.out H10L.out HD1.out HD2.out x hx
      have h1 := hh h p hp q hq
      rw [e1] at h1
      exact h1
end Go.Proofs.YtbkcmgjmhglghaaGreatDoor
