/-
  Plain: what the search tells.
  decide.search's functions.
-/
import Derived.Test.YtbkcmgjmhglghaaGreatDoorWh3
import Derived.Test.YtbkcmgjmhglghaaGreatDoorWi1
namespace Go.Proofs.YtbkcmgjmhglghaaGreatDoor
open Go.RowKit

theorem allAt_shift : ∀ (n a b : Nat) (T : Nat → Bool), allAt n b (fun k => T (a + k)) = allAt n (a + b) T
  | 0, _, _, _ => rfl
  | n + 1, a, b, T => by
    simp only [allAt]
    rw [allAt_shift n a (b + 1) T, Nat.add_assoc]
theorem holdsAt_shift : ∀ (c : Cnd) (a b : Nat) (T : Nat → Bool), holdsAt c b (fun k => T (a + k)) = holdsAt c (a + b) T
  | [], _, _, _ => rfl
  | l :: c, a, b, T => by
    simp only [holdsAt]
    rw [allAt_shift, holdsAt_shift c a (b + l.length) T, Nat.add_assoc]
/-- All relations of all conditions. -/
def allRel (cs : List Cnd) : List Rel := (cs.map List.flatten).flatten
theorem allRel_cons (c : Cnd) (cs : List Cnd) : allRel (c :: cs) = c.flatten ++ allRel cs := rfl
theorem allRel_snoc (cs : List Cnd) (c : Cnd) : allRel (cs ++ [c]) = allRel cs ++ c.flatten := by simp [allRel]
theorem allRel_relB {cs : List Cnd} (h : ∀ c ∈ cs, condB c = true) : ∀ r ∈ allRel cs, relB r = true := by
  intro r hr
  obtain ⟨l, hl, hr⟩ := List.mem_flatten.1 hr
  obtain ⟨c, hc, rfl⟩ := List.mem_map.1 hl
  exact condB_rel (h c hc) hr
theorem allRel_len {cs : List Cnd} (h : ∀ c ∈ cs, condB c = true) : (allRel cs).length ≤ 6 * cs.length := by
  induction cs with
  | nil => simp [allRel]
  | cons c cs ih =>
    have h1 := condB_total (h c List.mem_cons_self)
    have h2 := ih fun c hc => h c (List.mem_cons_of_mem _ hc)
    rw [allRel_cons, List.length_append, List.length_cons]
    omega
/-- Where the relations of the condition i begin. -/
def offs (cs : List Cnd) (i : Nat) : Nat := (allRel (cs.take i)).length
theorem offs_zero (cs : List Cnd) : offs cs 0 = 0 := by simp [offs, allRel]
theorem take_snoc {α : Type} {l : List α} {i : Nat} {x : α} (h : l[i]? = some x) : l.take (i + 1) = l.take i ++ [x] := by rw [List.take_add_one, h]; rfl
theorem offs_succ {cs : List Cnd} {i : Nat} {c : Cnd} (h : cs[i]? = some c) : offs cs (i + 1) = offs cs i + total c := by
  unfold offs
  rw [take_snoc h, allRel_snoc, List.length_append, total_flatten]
theorem offs_le {cs : List Cnd} {i : Nat} {c : Cnd} (h : cs[i]? = some c) : offs cs i + total c ≤ (allRel cs).length := by
  rw [← offs_succ h]
  unfold offs
  have : allRel cs = allRel (cs.take (i + 1)) ++ allRel (cs.drop (i + 1)) := by
    unfold allRel
    rw [← List.flatten_append, ← List.map_append, List.take_append_drop]
  rw [this, List.length_append]
  omega
theorem allRel_get {cs : List Cnd} {i k : Nat} {c : Cnd} {r : Rel} (h : cs[i]? = some c) (hr : c.flatten[k]? = some r) : (allRel cs)[offs cs i + k]? = some r := by
  have e : allRel cs = allRel (cs.take i) ++ (c.flatten ++ allRel (cs.drop (i + 1))) := by
    have h1 : cs = cs.take i ++ (c :: cs.drop (i + 1)) := by
      have hi := (List.getElem?_eq_some_iff.1 h)
      obtain ⟨hi, he⟩ := hi
      rw [← he, ← List.drop_eq_getElem_cons hi, List.take_append_drop]
    conv => lhs; rw [h1]
    unfold allRel
    rw [List.map_append, List.flatten_append, List.map_cons, List.flatten_cons]
  rw [e]
  unfold offs
  rw [List.getElem?_append_right (by omega), Nat.add_sub_cancel_left, List.getElem?_append_left (List.getElem?_eq_some_iff.1 hr).1]
  exact hr
/-- Which conditions hold, given which relations do. -/
def condsT (cs : List Cnd) (T : Nat → Bool) : List Bool := (List.range cs.length).map fun i => holdsAt (cs.getD i []) (offs cs i) T
theorem condsT_len (cs : List Cnd) (T : Nat → Bool) : (condsT cs T).length = cs.length := by simp [condsT]
theorem condsT_get {cs : List Cnd} {T : Nat → Bool} {i : Nat} {c : Cnd} (h : cs[i]? = some c) : (condsT cs T)[i]? = some (holdsAt c (offs cs i) T) := by
  have hi := (List.getElem?_eq_some_iff.1 h).1
  unfold condsT
  rw [List.getElem?_map, List.getElem?_range hi]
  simp [List.getD, h]
/-- For each number some whole part and some fraction tell what holds. -/
theorem conds_num {cs : List Cnd} (hc : ∀ c ∈ cs, condB c = true) (h10 : cs.length ≤ 10) {ws fs : List (Nat × ByteArray)} (hws : ∀ k, k < 1000 → ∃ q ∈ ws, q.1 = whBits (allRel cs) k) (hfs : ∀ d, Digs d → d.length ≤ 6 → ∃ q ∈ fs, q.1 = fbits (allRel cs) d) (x : Num) (hx : x.OK) :
    ∃ p ∈ ws, ∃ q ∈ fs, condsT cs (holdB (allRel cs) p.1 q.1) = cs.map fun c => condH c x := by
  obtain ⟨m, hm, hr⟩ := red_rep (val x.wh)
  obtain ⟨p, hp, hpe⟩ := hws m hm
  obtain ⟨q, hq, hqe⟩ := hfs x.fr hx.2.1 hx.2.2.2.2.2
  refine ⟨p, hp, q, hq, ?_⟩
  have hl := allRel_relB hc
  have h60 : (allRel cs).length ≤ 60 := by have := allRel_len hc; omega
  rw [hpe, hqe]
  apply List.ext_getElem?
  intro i
  rcases h : cs[i]? with _ | c
  · rw [List.getElem?_map, h, List.getElem?_eq_none (by rw [condsT_len]; exact List.getElem?_eq_none_iff.1 h)]
    rfl
  · rw [condsT_get h, List.getElem?_map, h]
    show some _ = some _
    congr 1
    unfold condH
    refine holdsAt_eq fun k r hr' => ?_
    exact holdB_num hl h60 x hr (allRel_get h hr')
end Go.Proofs.YtbkcmgjmhglghaaGreatDoor
namespace Go.Proofs.YtbkcmgjmhglghaaGreatDoor
open Go.RowKit

theorem c4_step {W w8 w0 : World} {p1 p2 p3 p4 : Addr} {v1 v2 v3 v4 : Value} (h : W.cell? p1 = some v1 ∧ W.cell? p2 = some v2 ∧ W.cell? p3 = some v3 ∧ W.cell? p4 = some v4 ∧ Below w0.heap.size w0 W) (hb : Below W.heap.size W w8) :
    w8.cell? p1 = some v1 ∧ w8.cell? p2 = some v2 ∧ w8.cell? p3 = some v3 ∧ w8.cell? p4 = some v4 ∧ Below w0.heap.size w0 w8 := by
  obtain ⟨h1, h2, h3, h4, h9⟩ := h
  have c := fun p u (h : W.cell? p = some u) => (hb.cell (p := p) (World.block_lt_of_cell? W _ h)).trans h
  exact ⟨c _ _ h1, c _ _ h2, c _ _ h3, c _ _ h4, h9.trans (hb.mono h9.size)⟩
set_option maxRecDepth 100000 in
set_option maxHeartbeats 1600000 in
theorem search11_any (g4 gf g7 fk i a n m t g : Nat) (lb : Array Value) (eg : ∀ args W, (callFunc g args).run Tryz.prog W = .ok (.enter g args) W) (T : Nat → Bool) (w : World) (h4 : w.cell? ⟨g4, 0, none⟩ = some (.func (.func g) #[] lb)) (hf : w.cell? ⟨gf, 0, none⟩ = some (.slice (some ⟨fk, 0, none⟩) n n)) (h7 : w.cell? ⟨g7, 0, none⟩ = some (.int .i64 i)) (hfk : w.cell? ⟨fk, i, none⟩ = some (.int .i64 a)) (hi : i < n) (hm : a + t ≤ m) (hm60 : m ≤ 60) (hT : Tells2 g lb T m w) :
    Tells2 54 #[.pointer (some ⟨g4, 0, none⟩), .pointer (some ⟨gf, 0, none⟩), .pointer (some ⟨g7, 0, none⟩)] (fun k => T (a + k)) t w := by
  intro W k hW hk
  have cc := fun p u (h : w.cell? p = some u) => (hW.cell (p := p) (World.block_lt_of_cell? w _ h)).trans h
  have x4 := cc _ _ h4
  have xf := cc _ _ hf
  have x7 := cc _ _ h7
  have xk := cc _ _ hfk
  have hTW := hT.below hW
  have i0 : (0 : Int) ≤ (i : Int) := by omega
  have i1 : (i : Int) < (n : Int) := by omega
  have hwr : IntKind.i64.wrap ((a : Int) + (k : Int)) = ((a + k : Nat) : Int) := by
    simp [IntKind.wrap, IntKind.bits, IntKind.signed]
    omega
  have hcall := fun W' (hb : Below W.heap.size W W') => hTW W' (a + k) hb (by omega)
  have HCALL := Lib.hid hcall
  clear h4 hf h7 hfk hT hW cc hTW hcall
  go_enter Tryz.func54, Tryz.ntmps54
  go_upto_region 1 with fail
  go_region_held3 (fun X => X.cell? ⟨g4, 0, none⟩ = some (.func (.func g) #[] lb) ∧ X.cell? ⟨gf, 0, none⟩ = some (.slice (some ⟨fk, 0, none⟩) n n) ∧ X.cell? ⟨g7, 0, none⟩ = some (.int .i64 i) ∧ X.cell? ⟨fk, i, none⟩ = some (.int .i64 a) ∧ Below W.heap.size W X) (first | assumption | exact ⟨x4, xf, x7, xk, (Below.refl _ _).drew⟩)
    (first
      | (go_at_fn g; refine (HCALL.out _ (by first | exact (Below.refl _ _).drew | (refine And.right (And.right (And.right (And.right ?_))); assumption))).mono ?_; rintro e w8 ⟨rfl, hb8⟩; have hS8 := c4_step (by assumption) hb8))
  go_wp2
  go_ret
  exact ⟨rfl, hS8.2.2.2.2⟩
theorem BoolAt.set {W : World} {g : Nat} {bs : List Bool} (h : BoolAt W g bs) (i : Nat) (b : Bool) : BoolAt (W.setCell ⟨g, i, none⟩ (.bool b)) g (bs.set i b) := by
  have h1 := Lib.heap_setCell_same (i := i) h (.bool b)
  unfold BoolAt
  rw [h1, List.map_set]
  simp
theorem BoolAt.below {W W' : World} {b : Nat} {ts : List Bool} (h : BoolAt W b ts) (hb : Below W.heap.size W W') : BoolAt W' b ts := (hb.block b (Array.getElem?_eq_some_iff.1 h).1).trans h
theorem made_bools (n : Nat) (hn : n ≤ 1000) (w : World) : (Instr.makeSlice 38 (.int .i64 (n : Int)) (.int .i64 (n : Int))).run Tryz.prog w = .ok (.slice (some ⟨w.heap.size, 0, none⟩) n n) (w.alloc (.cells ((List.replicate n false).map Value.bool).toArray 4)) := by
  obtain ⟨j0, hj, hz0, hz1, hz2⟩ := info_parts Tryz.infoBool
  have hr := run_make (P := Tryz.prog) (w := w) 38 4 j0 (.bool false) Tryz.underlying38 hj hz0 .i64 .i64 n n (by omega) (Int.le_refl _) (by rw [hz2]; omega) (by omega)
  simp only [Int.toNat_natCast, hz1] at hr
  have e : ((List.replicate n false).map Value.bool).toArray = madeCells #[.bool false] (n * 1) := by
    apply Array.ext'
    apply List.ext_getElem?
    intro i
    by_cases hi : i < n
    · simp [madeCells, hi, Nat.mod_one]
    · rw [List.getElem?_eq_none (by simp; omega), List.getElem?_eq_none (by simp [size_madeCells]; omega)]
  rw [e]
  exact hr
/-- The Bools on the way. -/
def preB (l : List Bool) (i : Nat) : List Bool := l.take i ++ List.replicate (l.length - i) false
theorem preB_len {l : List Bool} {i : Nat} (hi : i ≤ l.length) : (preB l i).length = l.length := by simp [preB]; omega
theorem preB_full (l : List Bool) : preB l l.length = l := by simp [preB]
theorem preB_zero (l : List Bool) : preB l 0 = List.replicate l.length false := by simp [preB]
theorem preB_set {l : List Bool} {i : Nat} {b : Bool} (hb : l[i]? = some b) : (preB l i).set i b = preB l (i + 1) := by
  have hi := (List.getElem?_eq_some_iff.1 hb).1
  unfold preB
  have h1 : (l.take i).length = i := by rw [List.length_take]; omega
  rw [List.set_append_right _ _ (by omega), h1, Nat.sub_self, take_snoc hb]
  have h2 : l.length - i = (l.length - (i + 1)) + 1 := by omega
  rw [h2, List.replicate_succ]
  simp
theorem s1_step {W w8 w0 : World} {p1 : Addr} {v1 : Value} (h : W.cell? p1 = some v1 ∧ Below w0.heap.size w0 W) (hb : Below W.heap.size W w8) : w8.cell? p1 = some v1 ∧ Below w0.heap.size w0 w8 :=
  ⟨(hb.cell (p := p1) (World.block_lt_of_cell? W _ h.1)).trans h.1, h.2.trans (hb.mono h.2.size)⟩
theorem s1_set {W w0 : World} {p1 q : Addr} {v1 u : Value} (hq : w0.heap.size ≤ q.block) (h1 : p1.block ≠ q.block) (h : W.cell? p1 = some v1 ∧ Below w0.heap.size w0 W) : (W.setCell q u).cell? p1 = some v1 ∧ Below w0.heap.size w0 (W.setCell q u) :=
  ⟨(cell_ne h1).trans h.1, h.2.setCell hq u⟩
/-- What search's function tells. -/
structure SeR (w : World) (gl gf gff fk fg n B : Nat) (v : Value) (cs : List Cnd) : Prop where
  l : w.cell? ⟨gl, 0, none⟩ = some v
  f : w.cell? ⟨gf, 0, none⟩ = some (.slice (some ⟨fk, 0, none⟩) n n)
  ff : w.cell? ⟨gff, 0, none⟩ = some (.func (.func fg) #[] #[])
  fr : ∀ i, i < n → w.cell? ⟨fk, i, none⟩ = some (.int .i64 (offs cs i : Nat))
  cs : IsConds w B v cs
  hB : B ≤ w.heap.size
theorem SeR.below {w w' : World} {gl gf gff fk fg n B : Nat} {v : Value} {cs : List Cnd} (h : SeR w gl gf gff fk fg n B v cs) (hb : Below w.heap.size w w') : SeR w' gl gf gff fk fg n B v cs := by
  have cc := fun p u (h : w.cell? p = some u) => (hb.cell (p := p) (World.block_lt_of_cell? w _ h)).trans h
  exact ⟨cc _ _ h.l, cc _ _ h.f, cc _ _ h.ff, fun i hi => cc _ _ (h.fr i hi), h.cs.below (hb.mono h.hB), Nat.le_trans h.hB hb.size⟩
set_option maxRecDepth 100000 in
set_option maxHeartbeats 3200000 in
theorem search1_any (gl gf gff fk fg n B : Nat) (v : Value) (cs : List Cnd) (ef : ∀ args W, (callFunc fg args).run Tryz.prog W = .ok (.enter fg args) W) (F : List Bool → Bool) (w : World) (hR : SeR w gl gf gff fk fg n B v cs) (hn : n = cs.length) (hc : ∀ c ∈ cs, condB c = true) (h10 : n ≤ 10) (hF : AskF fg F n w) :
    AskT 53 #[.pointer (some ⟨gl, 0, none⟩), .pointer (some ⟨gf, 0, none⟩), .pointer (some ⟨gff, 0, none⟩)] (fun T => F (condsT cs T)) (allRel cs).length w := by
  intro W g lb T hW eg hT
  have hRW := hR.below hW
  have hcl := condsT_len cs T
  have hcg := fun i c (h : cs[i]? = some c) => condsT_get (T := T) h
  obtain ⟨R, hRR⟩ : ∃ R, R = condsT cs T := ⟨_, rfl⟩
  rw [← hRR] at hcl hcg
  rw [← hn] at hcl
  have h60 : (allRel cs).length ≤ 60 := by have := allRel_len hc; omega
  have hmk := fun W => made_bools n (by omega) W
  obtain ⟨TB, hTB⟩ : ∃ TB, TB = ((List.replicate n false).map Value.bool).toArray := ⟨_, rfl⟩
  rw [← hTB] at hmk
  obtain ⟨ao, cap, cvs, rfl, hcv, hq⟩ := condsAt hRW.cs
  rw [← hn] at hRW hq
  have hgoal : (fun T => F (condsT cs T)) T = F R := by rw [hRR]
  obtain ⟨FR, hFR⟩ : ∃ FR, FR = F R := ⟨_, rfl⟩
  have HRR := Lib.hid hRR
  have HTB := Lib.hid hTB
  have HFR := Lib.hid hFR
  have HRW := Lib.hid hRW
  have HCL := Lib.hid hcl
  have HCG := Lib.hid hcg
  have HN := Lib.hid hn
  have HC := Lib.hid hc
  have HF := Lib.hid (fun W' k bs (hb : Below W.heap.size W W') (hbs : BoolAt W' k bs) (hl : bs.length = n) => hF W' k bs (hW.trans (hb.mono hW.size)) hbs hl)
  have HT := Lib.hid hT
  have HCV := Lib.hid hcv
  have HQ := Lib.hid hq
  have H60 := Lib.hid h60
  rw [hgoal, ← hFR]
  clear hR hn hc hF hW hT hRR hTB hRW hcl hcg hcv hq hgoal hFR h60
  go_enter Tryz.func53, Tryz.ntmps53
  go_upto_region 1 with fail
  obtain ⟨w1, hw1⟩ : ∃ w1, w1 = W.alloc (.cells #[.func (.func g) #[] lb] 78) := ⟨_, rfl⟩
  rw [← hw1]
  have hb1 : Below W.heap.size W w1 := by rw [hw1]; exact (Below.refl _ _).alloc (Nat.le_refl _) _
  have hg1 : w1.heap[W.heap.size]? = some (.cells #[.func (.func g) #[] lb] 78 (0, 0)) := by rw [hw1]; exact heap_alloc_new W _
  have hr1 := HRW.out.below hb1
  obtain ⟨w2, hw2⟩ : ∃ w2, w2 = w1.alloc (.cells TB 4) := ⟨_, rfl⟩
  have hb2 : Below w1.heap.size w1 w2 := by rw [hw2]; exact (Below.refl _ _).alloc (Nat.le_refl _) _
  have hB2 : BoolAt w2 w1.heap.size (preB R 0) := by
    rw [preB_zero, HCL.out]
    unfold BoolAt
    rw [hw2, HTB.out]
    exact heap_alloc_new w1 _
  have hr2 := hr1.below hb2
  obtain ⟨kb, hkb⟩ : ∃ kb, kb = w1.heap.size := ⟨_, rfl⟩
  rw [← hkb] at hB2
  have y1 := hr1.l
  have y2 := hr2.l
  have hbW2 := hb1.trans (hb2.mono hb1.size)
  have hg2 := (hb2.block _ (Array.getElem?_eq_some_iff.1 hg1).1).trans hg1
  have hkb' : W.heap.size < kb := by
    rw [hkb]
    exact (Array.getElem?_eq_some_iff.1 hg1).1
  have HB2 := Lib.hid hB2
  have HR2 := Lib.hid hr2
  have HG2 := Lib.hid hg2
  have HBW2 := Lib.hid hbW2
  have HKB := Lib.hid hkb'
  clear hw1 hb1 hg1 hr1 hb2 hB2 hr2 hbW2 hg2 hkb'
  go_upto_region 2 with fail
  rw [← hw2, ← hkb]
  clear hw2 hkb y1
  go_wp2
  go_loopw [14] (fun iv wr => ∃ i : Nat, i ≤ n ∧ iv = .int .i64 i ∧ BoolAt wr kb (preB R i) ∧ Below W.heap.size W wr ∧ wr.heap[W.heap.size]? = some (.cells #[.func (.func g) #[] lb] 78 (0, 0)) ∧ kb < wr.heap.size) (fun iv _ => n - (intOf iv).toNat)
  case atStart => exact ⟨0, Nat.zero_le _, rfl, HB2.out, HBW2.out, HG2.out, (Array.getElem?_eq_some_iff.1 HB2.out).1⟩
  case round =>
    obtain ⟨i, hi, rfl, hbo, hbw, hgw, hkw⟩ := hrel
    have i0 : (0 : Int) ≤ (i : Int) := by omega
    by_cases hlt : i < n
    · have i1 : (i : Int) < (n : Int) := by omega
      obtain ⟨c, hcc⟩ : ∃ c, cs[i]? = some c := ⟨_, List.getElem?_eq_getElem (by have := HN.out; omega)⟩
      obtain ⟨b, o, rfl, hbB, hqq⟩ := HQ.out (by omega)
      have hrR := HRW.out.below hbw
      have a0 := (hbw.cell (p := ⟨b, o + i, none⟩) (by show b < W.heap.size; have := HRW.out.hB; omega)).trans (hqq i hlt)
      have hcv := HCV.out i c hcc
      generalize cvs i = cv at a0 hcv
      have hcB := HC.out c (List.mem_of_getElem? hcc)
      have hbR := HCG.out i c hcc
      obtain ⟨bb, hbb⟩ : ∃ bb, bb = holdsAt c (offs cs i) T := ⟨_, rfl⟩
      rw [← hbb] at hbR
      obtain ⟨w7, hw7⟩ : ∃ w7, w7 = wr.alloc (.cells #[.int .i64 i] 3) := ⟨_, rfl⟩
      have hb7 : Below wr.heap.size wr w7 := by rw [hw7]; exact (Below.refl _ _).alloc (Nat.le_refl _) _
      have hg7 : w7.heap[wr.heap.size]? = some (.cells #[.int .i64 (i : Int)] 3 (0, 0)) := by rw [hw7]; exact heap_alloc_new wr _
      obtain ⟨r7, hr7⟩ : ∃ r7, r7 = wr.heap.size := ⟨_, rfl⟩
      rw [← hr7] at hg7
      have x7 : w7.cell? ⟨r7, 0, none⟩ = some (.int .i64 i) := by rw [Lib.cell_of_heap hg7]; rfl
      have hbW7 := hbw.trans (hb7.mono hbw.size)
      have hr7R := hrR.below hb7
      have hg47 := (hb7.block _ (Array.getElem?_eq_some_iff.1 hgw).1).trans hgw
      have x4 : w7.cell? ⟨W.heap.size, 0, none⟩ = some (.func (.func g) #[] lb) := by rw [Lib.cell_of_heap hg47]; rfl
      have hbo7 := hbo.below hb7
      have hoff := offs_le hcc
      have h60 := H60.out
      have hcvb := hcv.below ((hbW7.mono HRW.out.hB))
      have hh : ∀ W5, Below w7.heap.size w7 W5 → Calls Tryz.prog 31 #[cv, .func (.func 54) #[] #[.pointer (some ⟨W.heap.size, 0, none⟩), .pointer (some ⟨gf, 0, none⟩), .pointer (some ⟨r7, 0, none⟩)]] W5 fun e w' => e = .returned (.bool bb) ∧ Below W5.heap.size W5 w' := fun W5 h5 => by
        have h5B : Below B w7 W5 := h5.mono (Nat.le_trans HRW.out.hB hbW7.size)
        have cc := fun p u (h : w7.cell? p = some u) => (h5.cell (p := p) (World.block_lt_of_cell? w7 _ h)).trans h
        have h1 := search11_any W.heap.size gf r7 fk i (offs cs i) n (allRel cs).length (total c) g lb eg T W5 (cc _ _ x4) (cc _ _ hr7R.f) (cc _ _ x7) (cc _ _ (hr7R.fr i hlt)) hlt hoff h60 (HT.out.below (hbW7.trans (h5.mono hbW7.size)))
        have h2 := dholds_any cv c B W5 (hcvb.below h5B) (Nat.le_trans HRW.out.hB (Nat.le_trans hbW7.size h5.size)) hcB 54 #[.pointer (some ⟨W.heap.size, 0, none⟩), .pointer (some ⟨gf, 0, none⟩), .pointer (some ⟨r7, 0, none⟩)] (fun _ _ => by kernel_rfl) (fun k => T (offs cs i + k)) h1.tells
        rw [holdsAt_shift, Nat.add_zero, ← hbb] at h2
        exact h2
      have hlk : i < (preB R i).length := by rw [preB_len (by have := HCL.out; omega), HCL.out]; exact hlt
      have hset := preB_set hbR
      have hne : r7 ≠ kb := by omega
      obtain ⟨ca, cp, hcvs, _⟩ := hcv
      subst hcvs
      obtain ⟨nc, hnc⟩ : ∃ nc, nc = c.length := ⟨_, rfl⟩
      rw [← hnc] at a0 hh
      have HH := Lib.hid hh
      have HBO7 := Lib.hid hbo7
      have HG47 := Lib.hid hg47
      have HLK := Lib.hid hlk
      have HSET := Lib.hid hset
      have HNE := Lib.hid hne
      have HBW7 := Lib.hid hbW7
      have HKW7 := Lib.hid (Nat.lt_of_lt_of_le hkw hb7.size)
      clear hcc hqq hcB hbR hbb hb7 hg7 hbW7 hr7R hg47 x4 hbo7 hoff h60 hcvb hh hlk hset hne hnc hbo hbw hgw hkw hrR hbB
      go_upto_region 5 with fail
      rw [← hw7, ← hr7]
      clear hw7 hr7
      go_region_held3 (fun X => X.cell? ⟨r7, 0, none⟩ = some (.int .i64 i) ∧ Below W.heap.size W X) (first | assumption | exact ⟨x7, HBW7.out.drew⟩ | exact s1_set (Nat.le_of_lt HKB.out) HNE.out (by assumption))
        (first
          | (go_at_call 31; refine (HH.out _ (Below.refl _ w7).drew).mono ?_; rintro e w8 ⟨rfl, hb8⟩; have hS8 := s1_step (by assumption) hb8; have hbo8 := HBO7.out.below ((Below.refl _ w7).drew.trans hb8); have z0 := hbo8.cell HLK.out; have z1 : w8.frozen? ⟨kb, i, none⟩ = false := Lib.frozen_of_heap hbo8 _; have HBO8 := Lib.hid hbo8; have HB8 := Lib.hid ((Below.refl _ w7).drew.trans hb8); clear hb8 hbo8))
      go_wp2
      go_roundw
      case rel =>
        refine ⟨i + 1, by omega, by go_num, ?_, hS8.2.setCell (Nat.le_of_lt HKB.out) _, ?_, ?_⟩
        · have h1 := HBO8.out.set i bb
          rw [HSET.out] at h1
          exact h1
        · rw [Below.heap_setCell _ _ _ _ (Nat.ne_of_lt HKB.out)]
          exact (HB8.out.block _ (Array.getElem?_eq_some_iff.1 HG47.out).1).trans HG47.out
        · have h1 : kb < w8.heap.size := Nat.lt_of_lt_of_le HKW7.out HB8.out.size
          simpa [World.setCell] using h1
      case measure => simp [intOf] <;> omega
    · have i1 : ¬ (i : Int) < (n : Int) := by omega
      have hin : n = i := by omega
      subst hin
      have hfull : BoolAt wr kb R := by
        rw [← HCL.out, preB_full] at hbo
        exact hbo
      have hrR := HRW.out.below hbw
      have y3 := hrR.ff
      have hf := HF.out wr kb R hbw hfull HCL.out
      rw [← HFR.out] at hf
      have HFF := Lib.hid hf
      have HBW := Lib.hid hbw
      clear hfull hrR hf hbo hbw hgw hkw
      go_wp2_with (go_at_fn fg; refine (HFF.out).mono ?_; rintro e w8 ⟨rfl, hb8⟩)
      go_ret
      exact ⟨rfl, HBW.out.trans (hb8.mono HBW.out.size)⟩
end Go.Proofs.YtbkcmgjmhglghaaGreatDoor
