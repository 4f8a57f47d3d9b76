/-
  decide.explore[reading].
-/
import Derived.Test.YtbkcmgjmhglghaaGreatDoorWx1
namespace Go.Proofs.YtbkcmgjmhglghaaGreatDoor
open Go.RowKit

theorem Tryz.infoRdg : (Tryz.prog.info? 73).map (fun i => (i.zero, i.size, i.bytes)) = some (some (.agg #[.int .i64 0, .int .i64 0, .int .i64 0, .int .i64 0, .int .i64 0, .int .i64 0, .int .i64 0, .int .i64 0, .int .i64 0, .int .i64 0, .int .i64 0, .int .i64 0, .int .i64 0]), 13, 104) := by kernel_rfl
/-- A reading's thirteen cells. -/
def celR (s : RS) : List Value := if s.2.length = 6 then rdC s else List.replicate 13 (.int .i64 0)
theorem celR_len (s : RS) : (celR s).length = 13 := by
  unfold celR
  split
  · rename_i h
    exact rdC_len h
  · simp
theorem rd13 {s : RS} (h : RdOK s) : ∃ z0 z1 z2 z3 z4 z5 z6 z7 z8 z9 z10 z11 z12 : Int, rdV s = .agg #[.int .i64 z0, .int .i64 z1, .int .i64 z2, .int .i64 z3, .int .i64 z4, .int .i64 z5, .int .i64 z6, .int .i64 z7, .int .i64 z8, .int .i64 z9, .int .i64 z10, .int .i64 z11, .int .i64 z12] ∧ celR s = [.int .i64 z0, .int .i64 z1, .int .i64 z2, .int .i64 z3, .int .i64 z4, .int .i64 z5, .int .i64 z6, .int .i64 z7, .int .i64 z8, .int .i64 z9, .int .i64 z10, .int .i64 z11, .int .i64 z12] := by
  obtain ⟨p, ts⟩ := s
  obtain ⟨h1, h2, h3⟩ := h
  simp only at h2
  match ts, h2 with
  | [t0, t1, t2, t3, t4, t5], _ => exact ⟨p, t0.1, t0.2, t1.1, t1.2, t2.1, t2.2, t3.1, t3.2, t4.1, t4.2, t5.1, t5.2, rfl, rfl⟩
theorem st_cells {w : World} {base g o cap n : Nat} {e : TypeId} {st : List RS} (h : w.ownsRow base e 13 (.slice (some ⟨g, o, none⟩) n cap) n (st.flatMap celR)) {i : Nat} {s : RS} (hi : st[i]? = some s) {z0 z1 z2 z3 z4 z5 z6 z7 z8 z9 z10 z11 z12 : Int} (hz : celR s = [.int .i64 z0, .int .i64 z1, .int .i64 z2, .int .i64 z3, .int .i64 z4, .int .i64 z5, .int .i64 z6, .int .i64 z7, .int .i64 z8, .int .i64 z9, .int .i64 z10, .int .i64 z11, .int .i64 z12]) :
    w.cell? ⟨g, i * 13, none⟩ = some (.int .i64 z0) ∧ w.cell? ⟨g, i * 13 + 1, none⟩ = some (.int .i64 z1) ∧ w.cell? ⟨g, i * 13 + 2, none⟩ = some (.int .i64 z2) ∧ w.cell? ⟨g, i * 13 + 3, none⟩ = some (.int .i64 z3) ∧ w.cell? ⟨g, i * 13 + 4, none⟩ = some (.int .i64 z4) ∧ w.cell? ⟨g, i * 13 + 5, none⟩ = some (.int .i64 z5) ∧ w.cell? ⟨g, i * 13 + 6, none⟩ = some (.int .i64 z6) ∧ w.cell? ⟨g, i * 13 + 7, none⟩ = some (.int .i64 z7) ∧ w.cell? ⟨g, i * 13 + 8, none⟩ = some (.int .i64 z8) ∧ w.cell? ⟨g, i * 13 + 9, none⟩ = some (.int .i64 z9) ∧ w.cell? ⟨g, i * 13 + 10, none⟩ = some (.int .i64 z10) ∧ w.cell? ⟨g, i * 13 + 11, none⟩ = some (.int .i64 z11) ∧ w.cell? ⟨g, i * 13 + 12, none⟩ = some (.int .i64 z12) := by
  have c := fun k (hk : k < 13) u (hu : (celR s)[k]? = some u) => (own_cells h (j := i * 13 + k) (x := u) (by rw [flat_get celR 13 celR_len st i k s hi hk]; exact hu)).2.1
  refine ⟨?_, ?_, ?_, ?_, ?_, ?_, ?_, ?_, ?_, ?_, ?_, ?_, ?_⟩
  · exact c 0 (by omega) _ (by rw [hz]; rfl)
  · exact c 1 (by omega) _ (by rw [hz]; rfl)
  · exact c 2 (by omega) _ (by rw [hz]; rfl)
  · exact c 3 (by omega) _ (by rw [hz]; rfl)
  · exact c 4 (by omega) _ (by rw [hz]; rfl)
  · exact c 5 (by omega) _ (by rw [hz]; rfl)
  · exact c 6 (by omega) _ (by rw [hz]; rfl)
  · exact c 7 (by omega) _ (by rw [hz]; rfl)
  · exact c 8 (by omega) _ (by rw [hz]; rfl)
  · exact c 9 (by omega) _ (by rw [hz]; rfl)
  · exact c 10 (by omega) _ (by rw [hz]; rfl)
  · exact c 11 (by omega) _ (by rw [hz]; rfl)
  · exact c 12 (by omega) _ (by rw [hz]; rfl)
set_option maxRecDepth 100000 in
set_option maxHeartbeats 3200000 in
theorem exploreR_any (start : RS) (U : List RS) (step : RS → Nat → RS) (acc : RS → Bool) (gs ga : Nat) (ls la : Array Value) (es : ∀ args W, (callFunc gs args).run Tryz.prog W = .ok (.enter gs args) W) (ea : ∀ args W, (callFunc ga args).run Tryz.prog W = .ok (.enter ga args) W)
    (w : World) (hU0 : start ∈ U) (hU : ∀ s ∈ U, ∀ c, c < 11 → step s c ∈ U) (hUl : U.length ≤ 1000000) (hUs : ∀ s ∈ U, RdOK s)
    (hst : ∀ (W : World) (s : RS) (c : Nat), Below w.heap.size w W → s ∈ U → c < 11 → Calls Tryz.prog gs (#[rdV s, .int .i64 c] ++ ls) W fun e w' => e = .returned (rdV (step s c)) ∧ Below W.heap.size W w')
    (hac : ∀ (W : World) (s : RS), Below w.heap.size w W → s ∈ U → Calls Tryz.prog ga (#[rdV s] ++ la) W fun e w' => e = .returned (.bool (acc s)) ∧ Below W.heap.size W w') :
    Calls Tryz.prog 27 #[rdV start, .func (.func gs) #[] ls, .func (.func ga) #[] la] w (TabP start step acc U.length w) := by
  have hkey : ∀ s ∈ U, ∃ kl, keyOf Tryz.prog 73 (rdV s) = some kl := fun s hs => key_rd (hUs s hs)
  obtain ⟨x0, x1, x2, x3, x4, x5, x6, x7, x8, x9, x10, x11, x12, hzs, hzc⟩ := rd13 (hUs start hU0)
  rw [hzs]
  obtain ⟨i0', hi0, hz0, hz1, hz2⟩ := info_parts Tryz.infoRdg
  obtain ⟨i1', hi1, hy0, hy1, hy2⟩ := info_parts Tryz.infoBool
  obtain ⟨i2', hi2, hx0, hx1, hx2⟩ := info_parts Tryz.infoRow
  obtain ⟨kl0, hkl0⟩ := hkey start hU0
  have HK := Lib.hid hkey
  have HU0 := Lib.hid hU0
  have HU := Lib.hid hU
  have HUL := Lib.hid hUl
  have HUS := Lib.hid hUs
  have HST := Lib.hid hst
  have HAC := Lib.hid hac
  have HKL0 := Lib.hid hkl0
  have HZS := Lib.hid hzs
  have HZC := Lib.hid hzc
  clear hkey hU0 hU hUl hUs hst hac hkl0 hzs hzc
  have mk : ∀ W : World, (Instr.makeMap 100 none).run Tryz.prog W = .ok (.map (some W.heap.size)) (W.alloc (.map #[] 0)) := fun _ => rfl
  go_enter Tryz.func27, Tryz.ntmps27
  go_wp2_with (first
    | (refine wpList_put rfl _ _ _ 100 (.inr rfl) 73 Tryz.keyedRd Tryz.underlying100 rdV rdV_inj U [] _ rfl (made_at _ _ (by simp)) (by simp) start HU0.out kl0 HKL0.out (by simp) (by rw [HZS.out]; rfl) rfl ?_; intro w1 hm1 hg1
       have hbx : w1.heap[w.heap.size]? = some (.cells #[.int .i64 x0, .int .i64 x1, .int .i64 x2, .int .i64 x3, .int .i64 x4, .int .i64 x5, .int .i64 x6, .int .i64 x7, .int .i64 x8, .int .i64 x9, .int .i64 x10, .int .i64 x11, .int .i64 x12] 73 (0, 0)) := by
         rw [hg1.block _ (by simp; omega) (by simp <;> omega)]
         rw [((Below.refl _ _).alloc (Nat.le_refl _) _ : Below ((w.alloc (.cells #[.int .i64 x0, .int .i64 x1, .int .i64 x2, .int .i64 x3, .int .i64 x4, .int .i64 x5, .int .i64 x6, .int .i64 x7, .int .i64 x8, .int .i64 x9, .int .i64 x10, .int .i64 x11, .int .i64 x12] 73)).alloc (.cells #[.slice none 0 0, .slice none 0 0] 67)).heap.size _ (((w.alloc (.cells #[.int .i64 x0, .int .i64 x1, .int .i64 x2, .int .i64 x3, .int .i64 x4, .int .i64 x5, .int .i64 x6, .int .i64 x7, .int .i64 x8, .int .i64 x9, .int .i64 x10, .int .i64 x11, .int .i64 x12] 73)).alloc (.cells #[.slice none 0 0, .slice none 0 0] 67)).alloc (.map #[] 0))).block _ (by simp; omega)]
         exact (alloc2 w _ _ _ _).1
       obtain ⟨e0, o0, e1, o1, e2, o2, e3, o3, e4, o4, e5, o5, e6, o6, e7, o7, e8, o8, e9, o9, e10, o10, e11, o11, e12, o12⟩ := row13 hbx
       have HM1 := Lib.hid hm1
       have HG1 := Lib.hid hg1
       clear hm1 hg1 hbx o0 o1 o2 o3 o4 o5 o6 o7 o8 o9 o10 o11 o12))
  have hgs := HG1.out.size
  have hgs1 : w.heap.size + 3 ≤ w1.heap.size := by simpa using hgs
  have hex : ExR 73 13 celR w ((w1.alloc (.cells #[.int .i64 x0, .int .i64 x1, .int .i64 x2, .int .i64 x3, .int .i64 x4, .int .i64 x5, .int .i64 x6, .int .i64 x7, .int .i64 x8, .int .i64 x9, .int .i64 x10, .int .i64 x11, .int .i64 x12] 73)).alloc (.cells #[.slice none 0 0, .slice none 0 0] 67)) (w1.heap.size + 1) (w.heap.size + 1) [start] [] [] (.slice (some ⟨w1.heap.size, 0, none⟩) 1 1) (.slice none 0 0) (.slice none 0 0) := by
    obtain ⟨q0, q1, qb, qs⟩ := alloc2 w1 #[.int .i64 x0, .int .i64 x1, .int .i64 x2, .int .i64 x3, .int .i64 x4, .int .i64 x5, .int .i64 x6, .int .i64 x7, .int .i64 x8, .int .i64 x9, .int .i64 x10, .int .i64 x11, .int .i64 x12] #[.slice none 0 0, .slice none 0 0] 73 67
    refine ⟨by rw [show [start].flatMap celR = [.int .i64 x0, .int .i64 x1, .int .i64 x2, .int .i64 x3, .int .i64 x4, .int .i64 x5, .int .i64 x6, .int .i64 x7, .int .i64 x8, .int .i64 x9, .int .i64 x10, .int .i64 x11, .int .i64 x12] from by simp [HZC.out]]; exact (World.ownsRow_lit (e := 73) (size := 13) w1 #[.int .i64 x0, .int .i64 x1, .int .i64 x2, .int .i64 x3, .int .i64 x4, .int .i64 x5, .int .i64 x6, .int .i64 x7, .int .i64 x8, .int .i64 x9, .int .i64 x10, .int .i64 x11, .int .i64 x12] 1 (by omega) (by unfold maxLen; omega) rfl).alloc _, q1, World.ownsRow_nil _ _ _ _, World.ownsRow_nil _ _ _ _, ?_, ?_, by omega, by omega, by omega⟩
    · rw [qb.block _ (by omega), HG1.out.block _ (by simp) (by simp <;> omega)]
      rw [((Below.refl _ _).alloc (Nat.le_refl _) _ : Below ((w.alloc (.cells #[.int .i64 x0, .int .i64 x1, .int .i64 x2, .int .i64 x3, .int .i64 x4, .int .i64 x5, .int .i64 x6, .int .i64 x7, .int .i64 x8, .int .i64 x9, .int .i64 x10, .int .i64 x11, .int .i64 x12] 73)).alloc (.cells #[.slice none 0 0, .slice none 0 0] 67)).heap.size _ (((w.alloc (.cells #[.int .i64 x0, .int .i64 x1, .int .i64 x2, .int .i64 x3, .int .i64 x4, .int .i64 x5, .int .i64 x6, .int .i64 x7, .int .i64 x8, .int .i64 x9, .int .i64 x10, .int .i64 x11, .int .i64 x12] 73)).alloc (.cells #[.slice none 0 0, .slice none 0 0] 67)).alloc (.map #[] 0))).block _ (by simp)]
      have := heap_alloc_new (w.alloc (.cells #[.int .i64 x0, .int .i64 x1, .int .i64 x2, .int .i64 x3, .int .i64 x4, .int .i64 x5, .int .i64 x6, .int .i64 x7, .int .i64 x8, .int .i64 x9, .int .i64 x10, .int .i64 x11, .int .i64 x12] 73)) (.cells #[.slice none 0 0, .slice none 0 0] 67)
      rw [show (w.alloc (.cells #[.int .i64 x0, .int .i64 x1, .int .i64 x2, .int .i64 x3, .int .i64 x4, .int .i64 x5, .int .i64 x6, .int .i64 x7, .int .i64 x8, .int .i64 x9, .int .i64 x10, .int .i64 x11, .int .i64 x12] 73)).heap.size = w.heap.size + 1 from by simp] at this
      exact this
    · have h1 : Below w.heap.size w (((w.alloc (.cells #[.int .i64 x0, .int .i64 x1, .int .i64 x2, .int .i64 x3, .int .i64 x4, .int .i64 x5, .int .i64 x6, .int .i64 x7, .int .i64 x8, .int .i64 x9, .int .i64 x10, .int .i64 x11, .int .i64 x12] 73)).alloc (.cells #[.slice none 0 0, .slice none 0 0] 67)).alloc (.map #[] 0)) := (((Below.refl _ _).alloc (Nat.le_refl _) _).alloc (by simp) _).alloc (by simp; omega) _
      have h2 : Below w.heap.size w w1 := h1.grown HG1.out (by simp; omega) (fun k e => by injection e with e; omega)
      exact h2.trans (qb.mono (by omega))
  have hmi : MapIs 73 rdV U ((w1.alloc (.cells #[.int .i64 x0, .int .i64 x1, .int .i64 x2, .int .i64 x3, .int .i64 x4, .int .i64 x5, .int .i64 x6, .int .i64 x7, .int .i64 x8, .int .i64 x9, .int .i64 x10, .int .i64 x11, .int .i64 x12] 73)).alloc (.cells #[.slice none 0 0, .slice none 0 0] 67)) (w.heap.size + 1 + 1) [start] :=
    (show MapIs 73 rdV U w1 (w.heap.size + 1 + 1) [start] from HM1.out).below (alloc2 w1 _ _ _ _).2.2.1
  obtain ⟨tb, htb⟩ : ∃ tb, tb = w1.heap.size + 1 := ⟨_, rfl⟩
  obtain ⟨mb, hmb⟩ : ∃ mb, mb = w.heap.size + 1 + 1 := ⟨_, rfl⟩
  rw [← htb] at hex
  rw [← hmb] at hmi
  have hmbB : w.heap.size ≤ mb := by omega
  rw [← htb, ← hmb]
  have HEX := Lib.hid hex
  have HMI := Lib.hid hmi
  have HMB := Lib.hid hmbB
  clear hex hmi hgs hgs1 htb hmb hmbB HM1 HG1
  go_loopw [8, 10] (fun sv iv wr => ∃ (i : Nat) (st : List RS) (next : List (List Nat)) (ac : List Bool) (nv av : Value), iv = .int .i64 i ∧ Part start step acc U st next ac i ∧ MapIs 73 rdV U wr mb st ∧ ExR 73 13 celR w wr tb (w.heap.size + 1) st next ac sv nv av) (fun _ iv _ => U.length + 1 - (intOf iv).toNat)
  case atStart => exact ⟨0, [start], [], [], _, _, rfl, ⟨rfl, by simp, fun s hs => by simp at hs; subst hs; exact HU0.out, by simp, rfl, rfl, fun _ _ h => by simp at h, fun _ _ h => by omega, fun _ _ h => by omega⟩, HMI.out, HEX.out⟩
  case round =>
    obtain ⟨i, st, next, ac, nv, av, rfl, hpart, hmi, hex⟩ := hrel
    have hlen : st.length ≤ U.length := nodup_sub hpart.nodup hpart.sub
    have hile := hpart.le
    have hpos : 0 < st.length := (List.getElem?_eq_some_iff.1 hpart.first).1
    obtain ⟨g, cap, rfl, hgb, hgl⟩ := hex.own.form hpos
    have hUL := HUL.out
    have i0 : (0 : Int) ≤ (i : Int) := by omega
    obtain ⟨n, hn⟩ : ∃ n, n = st.length := ⟨_, rfl⟩
    have HPART := Lib.hid hpart
    have HMI2 := Lib.hid hmi
    have HEX2 := Lib.hid hex
    by_cases hlt : i < n
    · have i1 : (i : Int) < (n : Int) := by omega
      obtain ⟨s, hs⟩ : ∃ s, st[i]? = some s := ⟨_, List.getElem?_eq_getElem (by omega)⟩
      have hsU := hpart.sub s (List.mem_of_getElem? hs)
      have hrow0 : RowIs (wr.alloc (.cells #[.int .i64 0, .int .i64 0, .int .i64 0, .int .i64 0, .int .i64 0, .int .i64 0, .int .i64 0, .int .i64 0, .int .i64 0, .int .i64 0, .int .i64 0] 102)) wr.heap.size [] := heap_alloc_new wr _
      have hnvb : nv.ownBlock ≠ some wr.heap.size := own_lt hex.nxt
      have hwsz := hex.bel.size
      have HROW0 := Lib.hid hrow0
      have HNVB := Lib.hid hnvb
      obtain ⟨yy0, yy1, yy2, yy3, yy4, yy5, yy6, yy7, yy8, yy9, yy10, yy11, yy12, hys, hyc⟩ := rd13 (HUS.out s hsU)
      have HYS := Lib.hid hys
      have HYC := Lib.hid hyc
      clear hys hyc
      have HS := Lib.hid hs
      have HSU := Lib.hid hsU
      have HWSZ := Lib.hid hwsz
      rw [← hn] at hlen hile hpos ⊢
      have HN := Lib.hid hn
      clear hpart hmi hex hs hsU hrow0 hnvb hwsz hn hgb hgl
      go_wp2
      obtain ⟨rb, hrb⟩ : ∃ rb, rb = wr.heap.size := ⟨_, rfl⟩
      rw [← hrb] at HROW0 HNVB ⊢
      have hwrb : w.heap.size ≤ rb := by rw [hrb]; exact HWSZ.out
      have HWRB := Lib.hid hwrb
      clear hrb hwrb HWSZ
      go_loopw [8, 27] (fun sv cv w2 => ∃ (c : Nat) (st2 : List RS) (r : List Nat), c ≤ 11 ∧ cv = .int .i64 c ∧ Fill step U st st2 s r c ∧ RowIs w2 rb r ∧ MapIs 73 rdV U w2 mb st2 ∧ ExR 73 13 celR w w2 tb (w.heap.size + 1) st2 next ac sv nv av) (fun _ cv _ => 11 - (intOf cv).toNat)
      case atStart =>
        exact ⟨0, st, [], by omega, rfl, ⟨⟨[], by simp⟩, HPART.out.nodup, HPART.out.sub, rfl, fun _ h => by omega⟩, HROW0.out, HMI2.out.below ((Below.refl _ _).alloc (Nat.le_refl _) _), by rw [HN.out]; exact HEX2.out.below ((Below.refl _ _).alloc (Nat.le_refl _) _)⟩
      case round =>
        obtain ⟨c, st2, r, hc, rfl, hfill, hrow, hmi2, hex2⟩ := hrel
        have hlen2 : st2.length ≤ U.length := nodup_sub hfill.nodup hfill.sub
        obtain ⟨exx, hext⟩ := hfill.ext
        have hs2 : st2[i]? = some s := by rw [hext, List.getElem?_append_left (by have := HN.out; omega)]; exact HS.out
        have hil2 := (List.getElem?_eq_some_iff.1 hs2).1
        obtain ⟨g2, cap2, rfl, hgb2, hgl2⟩ := hex2.own.form (by omega)
        obtain ⟨d0, d1, d2, d3, d4, d5, d6, d7, d8, d9, d10, d11, d12⟩ := st_cells hex2.own hs2 HYC.out
        obtain ⟨n2, hn2⟩ : ∃ n2, n2 = st2.length := ⟨_, rfl⟩
        have HLEN2 := Lib.hid hlen2
        have HFILL := Lib.hid hfill
        have HROW := Lib.hid hrow
        have HMI3 := Lib.hid hmi2
        have HEX3 := Lib.hid hex2
        have HS2 := Lib.hid hs2
        rw [← hn2] at hil2 ⊢
        have hn2U : n2 ≤ 1000000 := by omega
        have HN2 := Lib.hid hn2
        have c0 : (0 : Int) ≤ (c : Int) := by omega
        have i2 : (i : Int) < (n2 : Int) := by omega
        have hrbB := HWRB.out
        clear hlen2 hext hs2 hfill hrow hmi2 hex2 hn2 hgb2 hgl2
        by_cases hc11 : c < 11
        · have c11 : (c : Int) < 11 := by omega
          have hsU' := HU.out s HSU.out c hc11
          obtain ⟨kl, hkl⟩ := HK.out _ hsU'
          have hcall := HST.out wr s c HEX3.out.bel HSU.out hc11
          obtain ⟨s', hs'⟩ : ∃ s', s' = step s c := ⟨_, rfl⟩
          rw [← hs'] at hsU' hkl hcall
          obtain ⟨q0, q1, q2, q3, q4, q5, q6, q7, q8, q9, q10, q11, q12, hqs, hqc⟩ := rd13 (HUS.out s' hsU')
          rw [HYS.out, hqs] at hcall
          have HQS := Lib.hid hqs
          have HQC := Lib.hid hqc
          clear hqs hqc
          have HS' := Lib.hid hs'
          have HSU' := Lib.hid hsU'
          have HKL := Lib.hid hkl
          have HCALL := Lib.hid hcall
          clear hs' hsU' hkl hcall
          by_cases hm : s' ∈ st2
          · have hd : memD s' st2 = true := memD_true hm
            obtain ⟨j, hjl, hj⟩ := List.getElem_of_mem hm
            have hj' : st2[j]? = some s' := by rw [← hj]; exact List.getElem?_eq_getElem hjl
            have HJ := Lib.hid hj'
            clear hj hj' hm hjl
            go_wp2_with (first
              | (go_at_fn gs; refine (HCALL.out).mono ?_; rintro e w3 ⟨rfl, hb3⟩
                 have hba : Below w3.heap.size w3 (w3.alloc (.cells #[.int .i64 q0, .int .i64 q1, .int .i64 q2, .int .i64 q3, .int .i64 q4, .int .i64 q5, .int .i64 q6, .int .i64 q7, .int .i64 q8, .int .i64 q9, .int .i64 q10, .int .i64 q11, .int .i64 q12] 73)) := (Below.refl _ _).alloc (Nat.le_refl _) _
                 have hmi4 := (HMI3.out.below hb3).below hba
                 have hex4 := (HEX3.out.below hb3).below hba
                 have hrow3 : RowIs w3 rb r := (hb3.block _ (Array.getElem?_eq_some_iff.1 HROW.out).1).trans HROW.out
                 have hrow4 : RowIs (w3.alloc (.cells #[.int .i64 q0, .int .i64 q1, .int .i64 q2, .int .i64 q3, .int .i64 q4, .int .i64 q5, .int .i64 q6, .int .i64 q7, .int .i64 q8, .int .i64 q9, .int .i64 q10, .int .i64 q11, .int .i64 q12] 73)) rb r := (hba.block _ (Array.getElem?_eq_some_iff.1 hrow3).1).trans hrow3
                 obtain ⟨rc, rf⟩ := hrow4.cell hc11
                 have hsb4 : (w3.alloc (.cells #[.int .i64 q0, .int .i64 q1, .int .i64 q2, .int .i64 q3, .int .i64 q4, .int .i64 q5, .int .i64 q6, .int .i64 q7, .int .i64 q8, .int .i64 q9, .int .i64 q10, .int .i64 q11, .int .i64 q12] 73)).heap[w3.heap.size]? = some (.cells #[.int .i64 q0, .int .i64 q1, .int .i64 q2, .int .i64 q3, .int .i64 q4, .int .i64 q5, .int .i64 q6, .int .i64 q7, .int .i64 q8, .int .i64 q9, .int .i64 q10, .int .i64 q11, .int .i64 q12] 73 (0, 0)) := heap_alloc_new w3 _
                 have HMI4 := Lib.hid hmi4
                 have HEX4 := Lib.hid hex4
                 have HROW4 := Lib.hid hrow4
                 have HSB4 := Lib.hid hsb4
                 clear hmi4 hex4 hrow4 hb3 hba hrow3 hsb4)
              | (at_lookup; refine wpList_look rfl _ _ 100 rfl 73 Tryz.keyedRd Tryz.underlying100 rdV U st2 mb rfl HMI4.out s' HSU'.out kl HKL.out (by rw [HQS.out]; rfl) ?_; intro n3 hn3; obtain rfl := hn3 j HJ.out; clear hn3))
            go_roundw
            case rel =>
              have hset := HROW4.out.set (by rw [HFILL.out.len]; exact hc11) j
              rw [HFILL.out.len] at hset
              exact ⟨c + 1, st2, r ++ [j], by omega, by go_num, HFILL.out.old (by rw [← HS'.out]; exact HJ.out), hset, HMI4.out.rowset HROW4.out _ _, by rw [HN2.out]; exact HEX4.out.rowset (by decide) HROW4.out hrbB HNVB.out _ _⟩
            case measure => simp [intOf] <;> omega
          · have hd : memD s' st2 = false := memD_false hm
            have HM := Lib.hid hm
            clear hm
            go_wp2_with (first
              | (go_at_fn gs; refine (HCALL.out).mono ?_; rintro e w3 ⟨rfl, hb3⟩
                 have hba : Below w3.heap.size w3 (w3.alloc (.cells #[.int .i64 q0, .int .i64 q1, .int .i64 q2, .int .i64 q3, .int .i64 q4, .int .i64 q5, .int .i64 q6, .int .i64 q7, .int .i64 q8, .int .i64 q9, .int .i64 q10, .int .i64 q11, .int .i64 q12] 73)) := (Below.refl _ _).alloc (Nat.le_refl _) _
                 have hmi4 := (HMI3.out.below hb3).below hba
                 have hex4 := (HEX3.out.below hb3).below hba
                 have hrow3 : RowIs w3 rb r := (hb3.block _ (Array.getElem?_eq_some_iff.1 HROW.out).1).trans HROW.out
                 have hrow4 : RowIs (w3.alloc (.cells #[.int .i64 q0, .int .i64 q1, .int .i64 q2, .int .i64 q3, .int .i64 q4, .int .i64 q5, .int .i64 q6, .int .i64 q7, .int .i64 q8, .int .i64 q9, .int .i64 q10, .int .i64 q11, .int .i64 q12] 73)) rb r := (hba.block _ (Array.getElem?_eq_some_iff.1 hrow3).1).trans hrow3
                 have hsb4 : (w3.alloc (.cells #[.int .i64 q0, .int .i64 q1, .int .i64 q2, .int .i64 q3, .int .i64 q4, .int .i64 q5, .int .i64 q6, .int .i64 q7, .int .i64 q8, .int .i64 q9, .int .i64 q10, .int .i64 q11, .int .i64 q12] 73)).heap[w3.heap.size]? = some (.cells #[.int .i64 q0, .int .i64 q1, .int .i64 q2, .int .i64 q3, .int .i64 q4, .int .i64 q5, .int .i64 q6, .int .i64 q7, .int .i64 q8, .int .i64 q9, .int .i64 q10, .int .i64 q11, .int .i64 q12] 73 (0, 0)) := heap_alloc_new w3 _
                 have HMI4 := Lib.hid hmi4
                 have HEX4 := Lib.hid hex4
                 have HROW4 := Lib.hid hrow4
                 have HSB4 := Lib.hid hsb4
                 clear hmi4 hex4 hrow4 hb3 hba hrow3 hsb4)
              | (at_lookup; refine wpList_look rfl _ _ 100 rfl 73 Tryz.keyedRd Tryz.underlying100 rdV U st2 mb rfl HMI4.out s' HSU'.out kl HKL.out (by rw [HQS.out]; rfl) ?_; intro n3 hn3; clear hn3)
              | (refine wpList_put rfl _ _ _ 100 (.inl rfl) 73 Tryz.keyedRd Tryz.underlying100 rdV rdV_inj U st2 mb rfl HMI4.out (by have := HN2.out; omega) s' HSU'.out kl HKL.out HM.out (by rw [HQS.out]; rfl) (by rw [← HN2.out]; rfl) ?_; intro w4 hm4 hg4
                 have hex5 := HEX4.out.mapped HMI4.out.isMap HMB.out hg4
                 have hrow5 : RowIs w4 rb r := (hg4.block _ (Array.getElem?_eq_some_iff.1 HROW4.out).1 (by
                   intro e
                   injection e with e
                   obtain ⟨es1, ck1, hmm⟩ := HMI4.out.isMap
                   rw [← e, HROW4.out] at hmm
                   injection hmm with hmm
                   cases hmm)).trans HROW4.out
                 have hsb5 := (hg4.block w3.heap.size (by simp) (by
                   intro e
                   injection e with e
                   obtain ⟨es1, ck1, hmm⟩ := HMI4.out.isMap
                   rw [← e, HSB4.out] at hmm
                   injection hmm with hmm
                   cases hmm)).trans HSB4.out
                 obtain ⟨e0, o0, e1, o1, e2, o2, e3, o3, e4, o4, e5, o5, e6, o6, e7, o7, e8, o8, e9, o9, e10, o10, e11, o11, e12, o12⟩ := row13 hsb5
                 have hown5 := (hex5.own.alloc (.cells #[.int .i64 q0, .int .i64 q1, .int .i64 q2, .int .i64 q3, .int .i64 q4, .int .i64 q5, .int .i64 q6, .int .i64 q7, .int .i64 q8, .int .i64 q9, .int .i64 q10, .int .i64 q11, .int .i64 q12] 73))
                 have hsz5 := hex5.bel.size
                 rw [← HN2.out] at hown5
                 have HM5 := Lib.hid hm4
                 have HEX5 := Lib.hid hex5
                 have HROW5 := Lib.hid hrow5
                 clear hm4 hg4 hex5 hrow5 hsb5 o0 o1 o2 o3 o4 o5 o6 o7 o8 o9 o10 o11 o12)
              | (at_builtin; refine wpList_append_lies _ rfl _ _ 101 rfl w.heap.size 73 i0' (.agg #[.int .i64 0, .int .i64 0, .int .i64 0, .int .i64 0, .int .i64 0, .int .i64 0, .int .i64 0, .int .i64 0, .int .i64 0, .int .i64 0, .int .i64 0, .int .i64 0, .int .i64 0]) 13 104 Tryz.underlying101 hi0 hz0 hz1 hz2 rfl (by decide) _ _ _ rfl hown5 ⟨w4.heap.size, 0, none⟩ 1 1 [.int .i64 q0, .int .i64 q1, .int .i64 q2, .int .i64 q3, .int .i64 q4, .int .i64 q5, .int .i64 q6, .int .i64 q7, .int .i64 q8, .int .i64 q9, .int .i64 q10, .int .i64 q11, .int .i64 q12] rfl rfl (cells_new _ _ _) (by intro u hu; simp at hu; rcases hu with rfl | rfl | rfl | rfl | rfl | rfl | rfl | rfl | rfl | rfl | rfl | rfl | rfl <;> rfl) (by decide) (by unfold maxLen; omega) (by omega) (by simp; omega) _ rfl ?_; intro g5 cap5 w5 ho5 hg5 _ _
                 have hbal : Below w4.heap.size w4 (w4.alloc (.cells #[.int .i64 q0, .int .i64 q1, .int .i64 q2, .int .i64 q3, .int .i64 q4, .int .i64 q5, .int .i64 q6, .int .i64 q7, .int .i64 q8, .int .i64 q9, .int .i64 q10, .int .i64 q11, .int .i64 q12] 73)) := (Below.refl _ _).alloc (Nat.le_refl _) _
                 have hex6 := (HEX5.out.below hbal).more (by decide) (by decide) (by decide) (s := s') (by rw [← HN2.out, HQC.out]; exact ho5) hg5
                 have hal : RowIs (w4.alloc (.cells #[.int .i64 q0, .int .i64 q1, .int .i64 q2, .int .i64 q3, .int .i64 q4, .int .i64 q5, .int .i64 q6, .int .i64 q7, .int .i64 q8, .int .i64 q9, .int .i64 q10, .int .i64 q11, .int .i64 q12] 73)) rb r := (hbal.block _ (Array.getElem?_eq_some_iff.1 HROW5.out).1).trans HROW5.out
                 have hrow6 : RowIs w5 rb r := (hg5.block _ (Array.getElem?_eq_some_iff.1 hal).1 (by
                   intro e
                   obtain ⟨cs, hh⟩ := own_block_heap hown5 e.symm
                   exact absurd (two_types hh hal) (by decide))).trans hal
                 have hm6 : MapIs 73 rdV U w5 mb (st2 ++ [s']) := (HM5.out.below hbal).kept hg5 (by
                   intro e
                   obtain ⟨es1, ck1, hmm⟩ := (HM5.out.below hbal).isMap
                   obtain ⟨cs, hh⟩ := own_block_heap hown5 e.symm
                   rw [hmm] at hh
                   injection hh with hh
                   cases hh)
                 obtain ⟨rc, rf⟩ := hrow6.cell hc11
                 have HEX6 := Lib.hid hex6
                 have HROW6 := Lib.hid hrow6
                 have HM6 := Lib.hid hm6
                 clear hex6 hal hrow6 hm6 hbal hg5 ho5))
            go_roundw
            case rel =>
              have hset := HROW6.out.set (by rw [HFILL.out.len]; exact hc11) n2
              rw [HFILL.out.len] at hset
              have hfl := HFILL.out.new (by rw [← HS'.out]; exact HSU'.out) (by rw [← HS'.out]; exact HM.out)
              rw [← HS'.out, ← HN2.out] at hfl
              have hx6 := HEX6.out.rowset (by decide) HROW6.out hrbB HNVB.out c (.int .i64 n2)
              exact ⟨c + 1, st2 ++ [s'], r ++ [n2], by omega, by go_num, hfl, hset, HM6.out.rowset HROW6.out _ _, hx6⟩
            case measure => simp [intOf] <;> omega
        · have c11 : ¬ (c : Int) < 11 := by omega
          have hcc : c = 11 := by omega
          subst hcc
          obtain ⟨t0, f0, t1, f1⟩ := tab_cells HEX3.out.tab
          obtain ⟨a0, a1, a2, a3, a4, a5, a6, a7, a8, a9, a10, hr11⟩ := row11 HFILL.out.len
          have hrw := HROW.out
          rw [hr11] at hrw
          obtain ⟨x0, x1, x2, x3, x4, x5, x6, x7, x8, x9, x10⟩ := hrw.all
          have HR11 := Lib.hid hr11
          obtain ⟨m, hm⟩ : ∃ m, m = next.length := ⟨_, rfl⟩
          have hown7 := HEX3.out.nxt
          rw [← hm] at hown7
          have hmi7 : m ≤ 1000000 := by
            have h1 := HPART.out.nlen
            have h2 := HPART.out.le
            have h3 := HLEN2.out
            have h4 := HN.out
            have h5 := HUL.out
            omega
          have HM7 := Lib.hid hm
          have hsz7 := HEX3.out.bel.size
          have ho7 := hown7.alloc (.cells #[.int .i64 (a0 : Nat), .int .i64 (a1 : Nat), .int .i64 (a2 : Nat), .int .i64 (a3 : Nat), .int .i64 (a4 : Nat), .int .i64 (a5 : Nat), .int .i64 (a6 : Nat), .int .i64 (a7 : Nat), .int .i64 (a8 : Nat), .int .i64 (a9 : Nat), .int .i64 (a10 : Nat)] 102)
          clear hm hown7 hr11 hrw
          go_wp2_with (first
            | (at_builtin; refine wpList_append_lies _ rfl _ _ 65 rfl w.heap.size 102 i2' (.agg #[.int .i64 0, .int .i64 0, .int .i64 0, .int .i64 0, .int .i64 0, .int .i64 0, .int .i64 0, .int .i64 0, .int .i64 0, .int .i64 0, .int .i64 0]) 11 88 Tryz.underlying65 hi2 hx0 hx1 hx2 rfl (by decide) _ _ _ rfl ho7 ⟨wr.heap.size, 0, none⟩ 1 1 [.int .i64 (a0 : Nat), .int .i64 (a1 : Nat), .int .i64 (a2 : Nat), .int .i64 (a3 : Nat), .int .i64 (a4 : Nat), .int .i64 (a5 : Nat), .int .i64 (a6 : Nat), .int .i64 (a7 : Nat), .int .i64 (a8 : Nat), .int .i64 (a9 : Nat), .int .i64 (a10 : Nat)] rfl rfl (cells_new _ _ _) (by intro u hu; simp at hu; rcases hu with rfl | rfl | rfl | rfl | rfl | rfl | rfl | rfl | rfl | rfl | rfl <;> rfl) (by decide) (by unfold maxLen; omega) (by omega) (by simp; omega) _ rfl ?_; intro g7 cap7 w7 ho8 hg7 _ _
               have hbal : Below wr.heap.size wr (wr.alloc (.cells #[.int .i64 (a0 : Nat), .int .i64 (a1 : Nat), .int .i64 (a2 : Nat), .int .i64 (a3 : Nat), .int .i64 (a4 : Nat), .int .i64 (a5 : Nat), .int .i64 (a6 : Nat), .int .i64 (a7 : Nat), .int .i64 (a8 : Nat), .int .i64 (a9 : Nat), .int .i64 (a10 : Nat)] 102)) := (Below.refl _ _).alloc (Nat.le_refl _) _
               have hexA := HEX3.out.below hbal
               have hmA := HMI3.out.below hbal
               have htA := hexA.tabKept ho7 (by decide) hg7
               have hm8 := (hmA.keptOwn ho7 hg7).setAt htA 0 (.slice (some ⟨g7, 0, none⟩) (m + 1) cap7)
               have hex8 := hexA.moreRow (by decide) (by decide) (r := r) (nv' := .slice (some ⟨g7, 0, none⟩) (m + 1) cap7) (by rw [← HM7.out, HR11.out]; exact ho8) hg7
               obtain ⟨y0, z0, y1, z1⟩ := tab_cells htA
               have HM8 := Lib.hid hm8
               have HEX8 := Lib.hid hex8
               clear hbal hexA hmA htA hm8 hex8 ho8 hg7 ho7 t0 f0 t1 f1 x0 x1 x2 x3 x4 x5 x6 x7 x8 x9 x10))
          obtain ⟨WD, hWD⟩ : ∃ WD : World, WD = w7.setCell ⟨tb, 0, none⟩ (.slice (some ⟨g7, 0, none⟩) (m + 1) cap7) := ⟨_, rfl⟩
          have hmD : MapIs 73 rdV U WD mb st2 := by rw [hWD]; exact HM8.out
          have hexD : ExR 73 13 celR w WD tb (w.heap.size + 1) st2 (next ++ [r]) ac (.slice (some ⟨g2, 0, none⟩) st2.length cap2) (.slice (some ⟨g7, 0, none⟩) (m + 1) cap7) av := by rw [hWD]; exact HEX8.out
          rw [← hWD]
          clear hWD
          obtain ⟨v0, v1, v2, v3, v4, v5, v6, v7, v8, v9, v10, v11, v12⟩ := st_cells hexD.own HS2.out HYC.out
          obtain ⟨t0, f0, t1, f1⟩ := tab_cells hexD.tab
          obtain ⟨k, hk⟩ : ∃ k, k = ac.length := ⟨_, rfl⟩
          have hk6 : k ≤ 1000000 := by
            have h1 := HPART.out.alen
            have h2 := HPART.out.le
            have h3 := HLEN2.out
            have h4 := HN.out
            have h5 := HUL.out
            omega
          have HK6 := Lib.hid hk
          obtain ⟨bb, hbb⟩ : ∃ bb, bb = acc s := ⟨_, rfl⟩
          have HBB := Lib.hid hbb
          have hcallA : ∀ W, Below WD.heap.size WD W → Calls Tryz.prog ga (#[.agg #[.int .i64 yy0, .int .i64 yy1, .int .i64 yy2, .int .i64 yy3, .int .i64 yy4, .int .i64 yy5, .int .i64 yy6, .int .i64 yy7, .int .i64 yy8, .int .i64 yy9, .int .i64 yy10, .int .i64 yy11, .int .i64 yy12]] ++ la) W fun e w' => e = .returned (.bool bb) ∧ Below W.heap.size W w' := fun W hW => by
            rw [hbb, ← HYS.out]
            exact HAC.out W s (hexD.bel.trans (hW.mono hexD.bel.size)) HSU.out
          have happ : ∀ w9, Below WD.heap.size WD w9 → ∃ gA capA wA, (Builtin.append_ #[38, 38] 38 #[av, .slice (some ⟨w9.heap.size, 0, none⟩) 1 1]).run Tryz.prog (w9.alloc (.cells #[.bool bb] 4)) = .ok (.slice (some ⟨gA, 0, none⟩) (k + 1) capA) wA ∧
              wA.cell? ⟨tb, 1, none⟩ = some av ∧ wA.frozen? ⟨tb, 1, none⟩ = false ∧ w9.cell? ⟨tb, 1, none⟩ = some av ∧ (w9.alloc (.cells #[.bool bb] 4)).cell? ⟨tb, 1, none⟩ = some av ∧ w9.cell? ⟨g2, i * 13, none⟩ = some (.int .i64 yy0) ∧ w9.cell? ⟨g2, i * 13 + 1, none⟩ = some (.int .i64 yy1) ∧ w9.cell? ⟨g2, i * 13 + 2, none⟩ = some (.int .i64 yy2) ∧ w9.cell? ⟨g2, i * 13 + 3, none⟩ = some (.int .i64 yy3) ∧ w9.cell? ⟨g2, i * 13 + 4, none⟩ = some (.int .i64 yy4) ∧ w9.cell? ⟨g2, i * 13 + 5, none⟩ = some (.int .i64 yy5) ∧ w9.cell? ⟨g2, i * 13 + 6, none⟩ = some (.int .i64 yy6) ∧ w9.cell? ⟨g2, i * 13 + 7, none⟩ = some (.int .i64 yy7) ∧ w9.cell? ⟨g2, i * 13 + 8, none⟩ = some (.int .i64 yy8) ∧ w9.cell? ⟨g2, i * 13 + 9, none⟩ = some (.int .i64 yy9) ∧ w9.cell? ⟨g2, i * 13 + 10, none⟩ = some (.int .i64 yy10) ∧ w9.cell? ⟨g2, i * 13 + 11, none⟩ = some (.int .i64 yy11) ∧ w9.cell? ⟨g2, i * 13 + 12, none⟩ = some (.int .i64 yy12) ∧
              MapIs 73 rdV U (wA.setCell ⟨tb, 1, none⟩ (.slice (some ⟨gA, 0, none⟩) (k + 1) capA)) mb st2 ∧
              ExR 73 13 celR w (wA.setCell ⟨tb, 1, none⟩ (.slice (some ⟨gA, 0, none⟩) (k + 1) capA)) tb (w.heap.size + 1) st2 (next ++ [r]) (ac ++ [bb]) (.slice (some ⟨g2, 0, none⟩) st2.length cap2) (.slice (some ⟨g7, 0, none⟩) (m + 1) cap7) (.slice (some ⟨gA, 0, none⟩) (k + 1) capA) := fun w9 hb9 => by
            have hm9 := hmD.below hb9
            have hex9 := hexD.below hb9
            have hown9 := (hex9.acc.alloc (.cells #[.bool bb] 4))
            rw [← hk] at hown9
            obtain ⟨gA, capA, wA, hrun, hoA, hgA, _, _⟩ := run_append_lies (P := Tryz.prog) (w9.alloc (.cells #[.bool bb] 4)) 38 38 w.heap.size 4 i1' (.bool false) 1 1 Tryz.underlying38 hi1 hy0 hy1 hy2 rfl (by decide) _ _ _ hown9 ⟨w9.heap.size, 0, none⟩ 1 1 [.bool bb] rfl (cell_one_new _ _ _) (by intro u hu; simp at hu; subst hu; rfl) (by decide) (by unfold maxLen; omega) (by omega) (by have := hex9.bel.size; simp; omega) _ rfl
            have hbal : Below w9.heap.size w9 (w9.alloc (.cells #[.bool bb] 4)) := (Below.refl _ _).alloc (Nat.le_refl _) _
            have hexA := hex9.below hbal
            have hmA := hm9.below hbal
            have htA := hexA.tabKept hown9 (by decide) hgA
            obtain ⟨_, _, y1, z1⟩ := tab_cells htA
            obtain ⟨_, _, q1, _⟩ := tab_cells hex9.tab
            obtain ⟨_, _, q3, _⟩ := tab_cells hexA.tab
            exact ⟨gA, capA, wA, hrun, y1, z1, q1, q3, (hb9.cell (p := _) (World.block_lt_of_cell? WD _ v0)).trans v0, (hb9.cell (p := _) (World.block_lt_of_cell? WD _ v1)).trans v1, (hb9.cell (p := _) (World.block_lt_of_cell? WD _ v2)).trans v2, (hb9.cell (p := _) (World.block_lt_of_cell? WD _ v3)).trans v3, (hb9.cell (p := _) (World.block_lt_of_cell? WD _ v4)).trans v4, (hb9.cell (p := _) (World.block_lt_of_cell? WD _ v5)).trans v5, (hb9.cell (p := _) (World.block_lt_of_cell? WD _ v6)).trans v6, (hb9.cell (p := _) (World.block_lt_of_cell? WD _ v7)).trans v7, (hb9.cell (p := _) (World.block_lt_of_cell? WD _ v8)).trans v8, (hb9.cell (p := _) (World.block_lt_of_cell? WD _ v9)).trans v9, (hb9.cell (p := _) (World.block_lt_of_cell? WD _ v10)).trans v10, (hb9.cell (p := _) (World.block_lt_of_cell? WD _ v11)).trans v11, (hb9.cell (p := _) (World.block_lt_of_cell? WD _ v12)).trans v12, (hmA.keptOwn hown9 hgA).setAt htA 1 _, hexA.moreAcc (by decide) (by decide) (b := bb) (by rw [← hk]; exact hoA) hgA⟩
          have HCA := Lib.hid hcallA
          have HAPP := Lib.hid happ
          clear d0 d1 d2 d3 d4 d5 d6 d7 d8 d9 d10 d11 d12 hcallA hmD hexD hk hbb happ t0 f0
          go_region_law (first
            | (refine step_fn (by rfl) _ _ _ (by rfl) ga la (.agg #[.int .i64 yy0, .int .i64 yy1, .int .i64 yy2, .int .i64 yy3, .int .i64 yy4, .int .i64 yy5, .int .i64 yy6, .int .i64 yy7, .int .i64 yy8, .int .i64 yy9, .int .i64 yy10, .int .i64 yy11, .int .i64 yy12]) (by rfl) (by rfl) ea (HCA.out _ (by first | exact Below.refl _ _ | exact (Below.refl _ _).drew)) ?_; rintro e w9 ⟨rfl, hb9⟩; refine ⟨_, rfl, ?_⟩; obtain ⟨gA, capA, wA, hrunA, p1, r1, q1, q3, u0, u1, u2, u3, u4, u5, u6, u7, u8, u9, u10, u11, u12, hmB, hexB⟩ := HAPP.out w9 (by first | exact hb9 | exact (Below.refl _ _).drew.trans hb9); have HRUN := Lib.hid hrunA; have HMB2 := Lib.hid hmB; have HEXB := Lib.hid hexB; clear hmB hexB hb9 hrunA)
            | (refine step_append_runI (R := fun v' w' => Value.slice (some ⟨gA, 0, none⟩) (k + 1) capA = v' ∧ wA = w') (by rfl) _ _ _ (by rfl) _ _ (by rfl) (by rfl) ⟨_, wA, HRUN.out, rfl, rfl⟩ ?_; rintro v8 w8 ⟨e8, f8⟩; subst e8 f8))
          all_goals
            go_wp2
            go_roundw
            case rel =>
              obtain ⟨exx, hext⟩ := HFILL.out.ext
              have hp := HPART.out.next hext HFILL.out.nodup HFILL.out.sub HS.out HFILL.out.len HFILL.out.row
              rw [← HBB.out] at hp
              exact ⟨i + 1, st2, next ++ [r], ac ++ [bb], _, _, by go_num, hp, HMB2.out, by rw [HN2.out]; exact HEXB.out⟩
            case measure => simp [intOf] <;> omega
    · have i1 : ¬ (i : Int) < (n : Int) := by omega
      have hin : i = st.length := by omega
      have htab := hpart.done hin
      have HTAB := Lib.hid htab
      obtain ⟨A, hA⟩ : ∃ A : Array Value, A = #[nv, av] := ⟨_, rfl⟩
      have hA2 : A.size = 2 := by rw [hA]; rfl
      have hA1 : A.all (·.oneCell') = true := by
        rw [hA]
        simp [own_one hex.nxt, own_one hex.acc]
      have htb := hex.tab
      rw [← hA] at htb
      have HTB := Lib.hid htb
      have HG6 := Lib.hid hex.res
      have HA := Lib.hid hA
      have HA1 := Lib.hid hA1
      have HA2 := Lib.hid hA2
      rw [← hn] at hlen hile hpos ⊢
      have HLEN := Lib.hid hlen
      have HN := Lib.hid hn
      clear hpart hmi hex htab hA hA2 hA1 htb hn hgb hgl hlen hile hpos hin
      go_wp2_with (first
        | (refine wpList_load_row rfl 67 _ rfl tb rfl _ _ _ _ HTB.out Tryz.underlying67 rfl (by rw [Tryz.infoTab1, HA2.out]) ?_)
        | (refine wpList_store_row rfl 67 _ _ rfl (w.heap.size + 1) _ rfl rfl 67 _ HG6.out (by rw [Tryz.infoTab1, HA2.out]) (by rw [HA2.out]; rfl) HA1.out ?_))
      refine bodyPost_ret (results_cell_row rfl _ _ (w.heap.size + 1) _ _ _ _ rfl (setRow_heap _ _ _ _ _ _ HG6.out) Tryz.underlying67 rfl (by rw [Tryz.infoTab1, HA2.out])) rfl ?_
      have hs := HEX2.out
      have hb1 : Below w.heap.size w (wr.setRow (w.heap.size + 1) A) := below_setRow hs.bel (by omega) _
      have hge : ∀ (v : Value) (e : TypeId) (size k : Nat) (xs : List Value), wr.ownsRow w.heap.size e size v k xs → e ≠ 67 → (wr.setRow (w.heap.size + 1) A).ownsRow w.heap.size e size v k xs := fun v e size k xs ho he => by
        refine own_grow ho (row := some (w.heap.size + 1)) ⟨rfl, rfl, rfl, by simp, fun j hj hne => setRow_other _ _ _ _ (fun e' => hne (by rw [e']))⟩ ?_
        rcases hn : v.ownBlock with _ | q
        · exact .inl rfl
        · refine .inr fun e' => ?_
          injection e' with e'
          subst e'
          obtain ⟨cs, hh⟩ := own_block_heap ho hn
          exact he (two_types hh hs.res)
      refine ⟨nv, av, st, next, ac, by rw [HA.out], HTAB.out, own_next (hge _ _ _ _ _ hs.nxt (by decide)), own_bools (hge _ _ _ _ _ hs.acc (by decide)), by rw [← HN.out]; exact HLEN.out, hb1⟩
end Go.Proofs.YtbkcmgjmhglghaaGreatDoor
