/-
  decide.newClasses.
-/
import Derived.Test.YtbkcmgjmhglghaaGreatDoorWh5
namespace Go.Proofs.YtbkcmgjmhglghaaGreatDoor
open Go.RowKit

/-- The whole parts while they are found. -/
structure WhP (w : World) (gx : Nat) (l : List Rel) (lv : Value) (m : Nat) (wr : World) (wv : Value) (ws : List Pt) : Prop where
  xb : wr.heap[gx]? = some (.cells #[lv, wv, .slice none 0 0] 125 (0, 0))
  pr : PartsR wr w.heap.size wv ws
  bel : Below w.heap.size w wr
  len : ws.length ≤ m
  ok : ∀ q ∈ ws, q.2.size ≤ 21 ∧ q.1 < 18446744073709551616
  done : ∀ k, k < m → ∃ q ∈ ws, q.1 = whBits l k
theorem WhP.below {w wr wr' : World} {gx m : Nat} {l : List Rel} {lv wv : Value} {ws : List Pt} (h : WhP w gx l lv m wr wv ws) (hb : Below wr.heap.size wr wr') : WhP w gx l lv m wr' wv ws :=
  ⟨(hb.block gx (Array.getElem?_eq_some_iff.1 h.xb).1).trans h.xb, own_grow h.pr (grown_below hb) (by cases wv.ownBlock <;> simp), h.bel.trans (hb.mono h.bel.size), h.len, h.ok, h.done⟩
theorem WhP.xkept {w wr wr' : World} {gx m : Nat} {l : List Rel} {lv wv : Value} {ws : List Pt} (h : WhP w gx l lv m wr wv ws) (hg : wr.grownBy wr' wv.ownBlock) : wr'.heap[gx]? = some (.cells #[lv, wv, .slice none 0 0] 125 (0, 0)) := by
  refine (hg.block gx (Array.getElem?_eq_some_iff.1 h.xb).1 (fun e => ?_)).trans h.xb
  obtain ⟨cs, hh⟩ := own_block_heap h.pr e.symm
  exact absurd (two_types hh h.xb) (by decide)
theorem WhP.kept {w wr wr' : World} {gx m : Nat} {l : List Rel} {lv wv wv' : Value} {ws ws' : List Pt} (h : WhP w gx l lv m wr wv ws) (hgx : w.heap.size ≤ gx) (p : Pt) (hp : p.2.size ≤ 21 ∧ p.1 < 18446744073709551616) (hpm : p.1 = whBits l m) (ho : PartsR wr' w.heap.size wv' ws') (hx : ∃ ext, ws' = ws ++ ext) (hl : ws'.length ≤ ws.length + 1) (hm : ∀ q ∈ ws', q ∈ ws ∨ q = p) (hq : ∃ q ∈ ws', q.1 = p.1) (hg : wr.grownBy wr' wv.ownBlock) :
    WhP w gx l lv (m + 1) (wr'.setCell ⟨gx, 1, none⟩ wv') wv' ws' := by
  have x2 := h.xkept hg
  have hrow : ∀ j, wv.ownBlock = some j → w.heap.size ≤ j := fun j hj => own_ge h.pr hj
  refine ⟨?_, own_grow ho (grown_setCell wr' ⟨gx, 1, none⟩ wv') (part_other ho (.inl ⟨_, _, x2, by decide⟩)), (h.bel.grown hg h.bel.size hrow).setCell hgx _, by have := h.len; omega, fun q hq => ?_, fun k hk => ?_⟩
  · rw [Lib.heap_setCell_same (i := 1) x2 wv']
    rfl
  · rcases hm q hq with h1 | h1
    · exact h.ok q h1
    · subst h1
      exact hp
  · by_cases hkm : k < m
    · obtain ⟨q, h1, h2⟩ := h.done k hkm
      obtain ⟨x, hx⟩ := hx
      exact ⟨q, by rw [hx]; exact List.mem_append_left _ h1, h2⟩
    · have : k = m := by omega
      subst this
      obtain ⟨q, h1, h2⟩ := hq
      exact ⟨q, h1, h2.trans hpm⟩
/-- What newClasses leaves. -/
def NewP (l : List Rel) (lv : Value) (w : World) (e : Ending) (w' : World) : Prop :=
  e = .returned (.pointer (some ⟨w.heap.size, 0, none⟩)) ∧ ∃ wv ws fv fs, w'.heap[w.heap.size]? = some (.cells #[lv, wv, fv] 125 (0, 0)) ∧ PartsR w' w.heap.size wv ws ∧ PartsR w' w.heap.size fv fs ∧ Below w.heap.size w w' ∧ ws.length ≤ 1000 ∧ (∀ q ∈ ws, q.2.size ≤ 21 ∧ q.1 < 18446744073709551616) ∧ (∀ k, k < 1000 → ∃ q ∈ ws, q.1 = whBits l k) ∧
  fs.length ≤ 10000000 ∧ (∀ q ∈ fs, q.2.size ≤ 6 ∧ q.1 < 18446744073709551616) ∧ ∀ d, Digs d → d.length ≤ 6 → ∃ q ∈ fs, q.1 = fbits l d
theorem WhP.fin {w wr w' : World} {l : List Rel} {lv wv : Value} {ws : List Pt} {e e' : Ending} (h : WhP w w.heap.size l lv 1000 wr wv ws) (hf : FracP w.heap.size l lv wv wr e' w') (he : e = .returned (.pointer (some ⟨w.heap.size, 0, none⟩))) : NewP l lv w e w' := by
  obtain ⟨_, fv, fs, h1, h2, h3, h4, h5, h6⟩ := hf
  have hb : Below w.heap.size wr w' := (Below.refl _ _).grown h3 h.bel.size (fun k hk => by injection hk with hk; omega)
  exact ⟨he, wv, ws, fv, fs, h1, own_grow h.pr h3 (part_other h.pr (.inl ⟨_, _, h.xb, by decide⟩)), own_less h2 h.bel.size, h.bel.trans hb, h.len, h.ok, h.done, h4, h5, h6⟩
set_option maxRecDepth 100000 in
set_option maxHeartbeats 6400000 in
theorem newClasses_any (lv : Value) (l : List Rel) (B : Nat) (w : World) (hv : IsRels w B lv l) (hB : B ≤ w.heap.size) (hl : ∀ r ∈ l, relB r = true) (h60 : l.length ≤ 60) (ht : Tab w) :
    Calls Tryz.prog 51 #[lv] w (NewP l lv w) := by
  have hmk := fun W => made_trackers l.length (by omega) W
  obtain ⟨ao, cap, svs, hlv, hsv, hq⟩ := rels_fun hv
  obtain ⟨n, hn⟩ : ∃ n, n = l.length := ⟨_, rfl⟩
  rw [← hn] at hlv hq h60 hmk
  obtain ⟨TA, hTA⟩ : ∃ TA, TA = ((List.replicate n ((0, 0) : Tr)).flatMap trC).toArray := ⟨_, rfl⟩
  rw [← hTA] at hmk
  have HTA := Lib.hid hTA
  clear hTA
  have HV := Lib.hid hv
  have HQ := Lib.hid hq
  have HSV := Lib.hid hsv
  have HN := Lib.hid hn
  have HL := Lib.hid hl
  have HB := Lib.hid hB
  have HT := Lib.hid ht
  subst hlv
  clear hv hq hsv hn hl hB ht
  go_enter Tryz.func51, Tryz.ntmps51
  go_wp2
  obtain ⟨w1, hw1⟩ : ∃ w1, w1 = w.alloc (.cells #[.slice ao n cap, .slice none 0 0, .slice none 0 0] 125) := ⟨_, rfl⟩
  rw [← hw1]
  have hwh : WhP w w.heap.size l (.slice ao n cap) 0 w1 (.slice none 0 0) [] := by
    rw [hw1]
    exact ⟨heap_alloc_new w _, World.ownsRow_nil _ _ _ _, (Below.refl _ _).alloc (Nat.le_refl _) _, by simp, fun _ h => by simp at h, fun k hk => by omega⟩
  have HWH := Lib.hid hwh
  clear hwh hw1
  go_loopw [12] (fun iv wr => ∃ (m : Nat) (wv : Value) (ws : List Pt), m ≤ 1000 ∧ iv = .int .i64 m ∧ WhP w w.heap.size l (.slice ao n cap) m wr wv ws) (fun iv _ => 1000 - (intOf iv).toNat)
  case atStart => exact ⟨0, _, _, by omega, rfl, HWH.out⟩
  case round =>
    obtain ⟨m, wv, ws, hm, rfl, hwp⟩ := hrel
    obtain ⟨wa, wcp, rfl⟩ := slice_form hwp.pr
    have m0 : (0 : Int) ≤ (m : Int) := by omega
    by_cases hlt : m < 1000
    · have m1 : (m : Int) < 1000 := by omega
      obtain ⟨f, hf⟩ : ∃ f : Rel → Tr, f = fun r => whTr r (m : Nat) := ⟨_, rfl⟩
      have hit := itoa_any m (by omega) wr (HT.out.below hwp.bel HT.out.lt)
      obtain ⟨s, hs⟩ : ∃ s : ByteArray, s = ⟨(Lib.itoa m).toArray⟩ := ⟨_, rfl⟩
      rw [← hs] at hit
      have hss : s.size ≤ 21 := by rw [hs]; exact itoa_size m (by omega)
      have HWP := Lib.hid hwp
      have HIT := Lib.hid hit
      have HF := Lib.hid hf
      have HSS := Lib.hid hss
      obtain ⟨w0, hw0⟩ : ∃ w0, w0 = wr := ⟨_, rfl⟩
      subst hw0
      clear hwp hit hs hf hss
      go_wp2_with (go_at_call 75; refine (HIT.out).mono ?_; rintro e w2 ⟨rfl, hb2⟩; have HW2 := Lib.hid (HWP.out.below hb2); clear hb2)
      obtain ⟨w3, hw3⟩ : ∃ w3, w3 = w2.alloc (.cells TA 70) := ⟨_, rfl⟩
      have hb3 : Below w2.heap.size w2 w3 := by rw [hw3]; exact (Below.refl _ _).alloc (Nat.le_refl _) _
      have ht3 : TrAt w3 w2.heap.size (preT l f 0) := by
        rw [hw3, HTA.out, preT_zero, HN.out]
        exact TrAt.made w2 _
      rw [← hw3]
      have HB3 := Lib.hid hb3
      have HT3 := Lib.hid ht3
      clear hw3 hb3 ht3
      go_loopw [22] (fun jv wq => ∃ j : Nat, j ≤ n ∧ jv = .int .i64 j ∧ TrAt wq w2.heap.size (preT l f j) ∧ Below w2.heap.size w2 wq) (fun jv _ => n - (intOf jv).toNat)
      case atStart => exact ⟨0, Nat.zero_le _, rfl, HT3.out, HB3.out⟩
      case round =>
        obtain ⟨j, hjle, rfl, htQ, hbQ⟩ := hrel
        have jz : (0 : Int) ≤ (j : Int) := by omega
        by_cases hjl : j < n
        · have j1 : (j : Int) < (n : Int) := by omega
          have hjl' : j < l.length := by have := HN.out; omega
          obtain ⟨r, hr⟩ : ∃ r, l[j]? = some r := ⟨_, List.getElem?_eq_getElem hjl'⟩
          have er' : l.getD j ⟨0, 0, false, []⟩ = r := by rw [List.getD_eq_getElem?_getD, hr]; rfl
          have hrB := HL.out r (List.mem_of_getElem? hr)
          have hsp := HSV.out j r hr
          obtain ⟨b, o, rfl, hbB, hcc⟩ := HQ.out (by omega)
          obtain ⟨q0, q1, q2, q3⟩ := hcc j hjl
          rw [er'] at q0 q1 q2
          have hbG := HW2.out.bel.trans (hbQ.mono HW2.out.bel.size)
          have cc := fun k u (h : w.cell? ⟨b, k, none⟩ = some u) => (hbG.cell (p := ⟨b, k, none⟩) (by show b < w.heap.size; have := HB.out; omega)).trans h
          have a0 := cc _ _ q0
          have a1 := cc _ _ q1
          have a2 := cc _ _ q2
          have a3 := cc _ _ q3
          have hfr' : f r = if onWh r = true then (red r m, 0) else (0, 0) := by rw [HF.out]; rfl
          have hst1 := preT_set (f := f) hr
          have hst2 := preT_skip (f := f) hr
          obtain ⟨op, md, nt, sp⟩ := r
          simp only at a0 a1 a2
          generalize svs j = sv at hsp q3 a3
          have hon := fun W => onWhole_any op md nt sv sp W
          have hrd := fun W (hW : Below w.heap.size w W) => reduced_any op md nt sv sp (m : Int) B W (hsp.below (hW.mono HB.out)) (Nat.le_trans HB.out hW.size) hrB m0
          obtain ⟨aS, cS, rfl, _⟩ := hsp
          obtain ⟨ms, hms⟩ : ∃ ms, ms = sp.length := ⟨_, rfl⟩
          rw [← hms] at hon hrd a3
          obtain ⟨OW, hOW⟩ : ∃ OW, OW = onWh ⟨op, md, nt, sp⟩ := ⟨_, rfl⟩
          rw [← hOW] at hon hfr'
          obtain ⟨RD, hRD⟩ : ∃ RD, RD = red ⟨op, md, nt, sp⟩ m := ⟨_, rfl⟩
          rw [← hRD] at hrd hfr'
          obtain ⟨w7, hw7⟩ : ∃ w7, w7 = wr.alloc (.cells #[.int .i64 op, .int .i64 md, .bool nt, .slice aS ms cS] 51) := ⟨_, rfl⟩
          have hsx : w7.heap[wr.heap.size]? = some (.cells #[.int .i64 op, .int .i64 md, .bool nt, .slice aS ms cS] 51 (0, 0)) := by rw [hw7]; exact heap_alloc_new wr _
          have hb7 : Below wr.heap.size wr w7 := by rw [hw7]; exact (Below.refl _ _).alloc (Nat.le_refl _) _
          have hbw7 : Below w2.heap.size w2 w7 := hbQ.trans (hb7.mono hbQ.size)
          have ht7 := htQ.below hb7
          have hpg := preT_get (f := f) hjl'
          have hpl := preT_len (f := f) (l := l) (j := j) (by omega)
          obtain ⟨k0, k1, k2, k3⟩ := rel_cells hsx
          have HON := Lib.hid hon
          have HRD := Lib.hid hrd
          have HSX := Lib.hid hsx
          have HBW7 := Lib.hid hbw7
          have HT7 := Lib.hid ht7
          have HFR := Lib.hid hfr'
          have HST1 := Lib.hid hst1
          have HST2 := Lib.hid hst2
          have HPG := Lib.hid hpg
          have HPL := Lib.hid hpl
          have HJL := Lib.hid hjl'
          clear hr er' hrB hcc q0 q1 q2 q3 hbB hbG cc hfr' hst1 hst2 hon hrd hms hOW hRD hsx hb7 hbw7 ht7 hpg hpl htQ hbQ hjl'
          go_upto_region 10 with fail
          rw [← hw7]
          clear hw7 a0 a1 a2 a3
          cases OW
          · go_wp2_with (go_at_call 76; refine (HON.out _).mono ?_; rintro e w8 ⟨rfl, hb8⟩; have HT8 := Lib.hid (HT7.out.below hb8); have HB8 := Lib.hid (HBW7.out.trans (hb8.mono HBW7.out.size)); clear hb8)
            go_roundw
            case rel => exact ⟨j + 1, by omega, by go_num, by rw [HST2.out (by rw [HFR.out]; rfl)]; exact HT8.out, HB8.out⟩
            case measure => simp [intOf] <;> omega
          · go_wp2_with (first
              | (go_at_call 76; refine (HON.out _).mono ?_; rintro e w8 ⟨rfl, hb8⟩; have hs8 := (hb8.block _ (Array.getElem?_eq_some_iff.1 HSX.out).1).trans HSX.out; obtain ⟨d0, d1, d2, d3⟩ := rel_cells hs8; have HT8 := Lib.hid (HT7.out.below hb8); have HB8 := Lib.hid (HBW7.out.trans (hb8.mono HBW7.out.size)); clear hb8 hs8)
              | (go_at_call 77; refine (HRD.out _ (HW2.out.bel.trans (HB8.out.mono HW2.out.bel.size))).mono ?_; rintro e w9 ⟨rfl, hb9⟩; have ht9 := HT8.out.below hb9; obtain ⟨e0, e1, e2, e3⟩ := ht9.cell HPG.out; have HT9 := Lib.hid ht9; have HB9 := Lib.hid (HB8.out.trans (hb9.mono HB8.out.size)); clear hb9 ht9))
            go_roundw
            case rel =>
              refine ⟨j + 1, by omega, by go_num, ?_, HB9.out.setCell (Nat.le_refl _) _⟩
              have h1 := HT9.out.set1 (i := j) (by rw [HPL.out]; exact HJL.out) RD HPG.out
              have h2 := HST1.out
              rw [HFR.out, if_pos trivial] at h2
              rw [h2] at h1
              exact h1
            case measure => simp [intOf] <;> omega
        · have j1 : ¬ (j : Int) < (n : Int) := by omega
          have hjn : n = j := by omega
          subst hjn
          have htD : TrAt wr w2.heap.size (l.map f) := by
            rw [HN.out, preT_full] at htQ
            exact htQ
          have hwR := HW2.out.below hbQ
          obtain ⟨_, x1, _, _, x4, _⟩ := three_cells hwR.xb
          have h60l : l.length ≤ 60 := by have := HN.out; omega
          obtain ⟨N, hN⟩ : ∃ N, N = bitsOf l false (l.map f) := ⟨_, rfl⟩
          have hNl : N < 18446744073709551616 := by
            rw [hN]
            have h1 := Nat.lt_of_lt_of_le (bitsN_lt (bitF l false (l.map f)) l.length) (Nat.pow_le_pow_right (by omega) h60l : 2 ^ l.length ≤ 2 ^ 60)
            exact Nat.lt_trans h1 (by omega)
          have hNw : N = whBits l m := by rw [hN, HF.out]; rfl
          have hbit : ∀ W, Below wr.heap.size wr W → Calls Tryz.prog 79 #[.pointer (some ⟨w.heap.size, 0, none⟩), .bool false, .slice (some ⟨w2.heap.size, 0, none⟩) n n] W fun e w' => e = .returned (.int .u64 (N : Nat)) ∧ Below W.heap.size W w' := fun W hW => by
            have h1 := bits_any w.heap.size w2.heap.size (.slice ao n cap) (.slice wa ws.length wcp) (.slice none 0 0) l false (l.map f) B W (hwR.below hW).xb (HV.out.below ((hwR.below hW).bel.mono HB.out)) (Nat.le_trans HB.out (hwR.below hW).bel.size) HL.out h60l (htD.below hW) (by simp)
            rw [← HN.out, ← hN] at h1
            exact h1
          have hkeep : ∀ W, Below wr.heap.size wr W → Calls Tryz.prog 78 #[.slice wa ws.length wcp, .agg #[.int .u64 (N : Nat), .string s]] W (KeepP w.heap.size (.slice wa ws.length wcp) ws (N, s) W) := fun W hW => keep_any w.heap.size (.slice wa ws.length wcp) ws (N, s) W (hwR.below hW).pr (hwR.below hW).bel.size (by have := hwR.len; omega)
          have HBIT := Lib.hid hbit
          have HKEEP := Lib.hid hkeep
          have HWR := Lib.hid hwR
          have HNL := Lib.hid hNl
          have HNW := Lib.hid hNw
          clear htD hwR hN hNl hNw hbit hkeep htQ hbQ h60l
          go_upto_region 13 with fail
          first
            | go_region_with (first
                | (go_at_call 79; refine (HBIT.out _ (Below.refl _ _).drew).mono ?_; rintro e w5 ⟨rfl, hb5⟩; have HB5 := Lib.hid ((Below.refl wr.heap.size wr).drew.trans hb5); have HW5 := Lib.hid (HWR.out.below HB5.out); obtain ⟨_, z1, _, _, z4, _⟩ := three_cells HW5.out.xb; clear hb5)
                | (go_at_call 78; refine (HKEEP.out _ HB5.out).mono ?_; rintro e w6 ⟨kv, ws3, rfl, hk1, hk2, hk3, hk4, hk5, hk6⟩; obtain ⟨ka, kc, rfl⟩ := slice_form hk1; obtain ⟨_, v1, _, _, v4, _⟩ := three_cells (HW5.out.xkept hk6); have HK := Lib.hid (HW5.out.kept (Nat.le_refl _) (N, s) ⟨HSS.out, HNL.out⟩ HNW.out hk1 hk2 hk3 hk4 hk5 hk6); clear hk1 hk2 hk3 hk4 hk5 hk6))
            | fail
          all_goals
            go_wp2
            go_roundw
            case rel => exact ⟨m + 1, _, _, by omega, by go_num, HK.out⟩
            case measure => simp [intOf] <;> omega
    · have m1 : ¬ (m : Int) < 1000 := by omega
      have hm' : m = 1000 := by omega
      subst hm'
      have hfr := fractions_any w.heap.size (.slice ao n cap) _ l B wr hwp.xb (HV.out.below (hwp.bel.mono HB.out)) HB.out HL.out (by have := HN.out; omega) (HT.out.below hwp.bel HT.out.lt) HT.out.lt
      have HWP := Lib.hid hwp
      have HFR := Lib.hid hfr
      clear hwp hfr
      go_wp2_with (go_at_call 80; refine (HFR.out).mono ?_; intro e w9 hf9; have he9 := hf9.1; subst he9)
      go_ret
      exact HWP.out.fin hf9 rfl
end Go.Proofs.YtbkcmgjmhglghaaGreatDoor
