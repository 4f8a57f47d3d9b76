/-
  Plain: the keys tell the states of fractions apart; covers; what the parts say of a number.
-/
import Derived.Test.YtbkcmgjmhglghaaGreatDoorWh2
namespace Go.Proofs.YtbkcmgjmhglghaaGreatDoor
open Go.RowKit

theorem dec_ge (u : Nat) : ∀ b ∈ Lib.decDigits u, 48 ≤ b.toNat ∧ b.toNat < 58 := by
  induction u using Nat.strongRecOn with
  | _ u ih =>
    rw [Lib.decDigits]
    have key : ∀ k, k < 10 → 48 ≤ (UInt8.ofNat (48 + k)).toNat ∧ (UInt8.ofNat (48 + k)).toNat < 58 := fun k hk => by
      have : (UInt8.ofNat (48 + k)).toNat = (48 + k) % 256 := by simp
      omega
    split
    · intro b hb
      simp only [List.mem_singleton] at hb
      subst hb
      exact key u (by assumption)
    · intro b hb
      rcases List.mem_append.1 hb with hb | hb
      · exact ih (u / 10) (by omega) b hb
      · simp only [List.mem_singleton] at hb
        subst hb
        exact key (u % 10) (by omega)
def dv (l : List UInt8) : Nat := l.foldl (fun a b => 10 * a + (b.toNat - 48)) 0
theorem dv_dec (u : Nat) : dv (Lib.decDigits u) = u := by
  induction u using Nat.strongRecOn with
  | _ u ih =>
    rw [Lib.decDigits]
    have key : ∀ k, k < 10 → (UInt8.ofNat (48 + k)).toNat - 48 = k := fun k hk => by
      have : (UInt8.ofNat (48 + k)).toNat = (48 + k) % 256 := by simp
      omega
    split
    · rename_i h
      show 10 * 0 + ((UInt8.ofNat (48 + u)).toNat - 48) = u
      rw [key u h]
      omega
    · have h1 : dv (Lib.decDigits (u / 10) ++ [UInt8.ofNat (48 + u % 10)]) = 10 * dv (Lib.decDigits (u / 10)) + ((UInt8.ofNat (48 + u % 10)).toNat - 48) := by simp [dv]
      rw [h1, ih (u / 10) (by omega), key (u % 10) (by omega)]
      omega
theorem itoa_inj {a b : Int} (ha : 0 ≤ a) (hb : 0 ≤ b) (h : Lib.itoa a = Lib.itoa b) : a = b := by
  unfold Lib.itoa at h
  rw [if_neg (by omega), if_neg (by omega)] at h
  have := congrArg dv h
  rw [dv_dec, dv_dec] at this
  omega
theorem itoa_no {a : Int} (ha : 0 ≤ a) : ∀ x ∈ Lib.itoa a, x ≠ 32 := by
  unfold Lib.itoa
  rw [if_neg (by omega)]
  intro x hx e
  have := dec_ge _ x hx
  rw [e] at this
  simp at this
theorem split32 : ∀ (l1 l2 r1 r2 : List UInt8), (∀ x ∈ l1, x ≠ 32) → (∀ x ∈ l2, x ≠ 32) → (r1 = [] ∨ r1.head? = some 32) → (r2 = [] ∨ r2.head? = some 32) → l1 ++ r1 = l2 ++ r2 → l1 = l2 ∧ r1 = r2
  | [], [], _, _, _, _, _, _, h => ⟨rfl, h⟩
  | [], y :: l2, r1, r2, _, h2, h3, _, h => by
    rcases h3 with h3 | h3
    · rw [h3] at h
      simp at h
    · cases r1 with
      | nil => simp at h3
      | cons z r1 =>
        simp at h3 h
        exact absurd (h.1.symm.trans h3) (h2 y List.mem_cons_self)
  | x :: l1, [], r1, r2, h1, _, _, h4, h => by
    rcases h4 with h4 | h4
    · rw [h4] at h
      simp at h
    · cases r2 with
      | nil => simp at h4
      | cons z r2 =>
        simp at h4 h
        exact absurd (h.1.trans h4) (h1 x List.mem_cons_self)
  | x :: l1, y :: l2, r1, r2, h1, h2, h3, h4, h => by
    simp at h
    obtain ⟨rfl, h⟩ := h
    obtain ⟨e1, e2⟩ := split32 l1 l2 r1 r2 (fun x hx => h1 x (List.mem_cons_of_mem _ hx)) (fun x hx => h2 x (List.mem_cons_of_mem _ hx)) h3 h4 h
    exact ⟨by rw [e1], e2⟩
def Pos (t : Tr) : Prop := 0 ≤ t.1 ∧ 0 ≤ t.2
theorem flat_head (ts : List Tr) : ts.flatMap trK = [] ∨ (ts.flatMap trK).head? = some 32 := by
  cases ts with
  | nil => exact .inl rfl
  | cons t ts => exact .inr rfl
theorem flatK_inj : ∀ (ts ts' : List Tr), ts.length = ts'.length → (∀ t ∈ ts, Pos t) → (∀ t ∈ ts', Pos t) → ts.flatMap trK = ts'.flatMap trK → ts = ts'
  | [], [], _, _, _, _ => rfl
  | [], _ :: _, h, _, _, _ => by simp at h
  | _ :: _, [], h, _, _, _ => by simp at h
  | t :: ts, t' :: ts', h, h1, h2, he => by
    have p1 := h1 t List.mem_cons_self
    have p2 := h2 t' List.mem_cons_self
    simp only [List.flatMap_cons, trK, List.cons_append, List.append_assoc, List.cons.injEq, true_and] at he
    obtain ⟨e1, e2⟩ := split32 _ _ _ _ (itoa_no p1.1) (itoa_no p2.1) (.inr rfl) (.inr rfl) he
    simp only [List.cons.injEq, true_and] at e2
    obtain ⟨e3, e4⟩ := split32 _ _ _ _ (itoa_no p1.2) (itoa_no p2.2) (flat_head ts) (flat_head ts') e2
    have a1 := itoa_inj p1.1 p2.1 e1
    have a2 := itoa_inj p1.2 p2.2 e3
    have a3 := flatK_inj ts ts' (by simpa using h) (fun t ht => h1 t (List.mem_cons_of_mem _ ht)) (fun t ht => h2 t (List.mem_cons_of_mem _ ht)) e4
    rw [a3]
    congr 1
    exact Prod.ext a1 a2
theorem fb_head (z : Bool) : ∃ r, Lib.formatBool z = (if z = true then 116 else 102) :: r := by
  cases z
  · exact ⟨[97, 108, 115, 101], by kernel_rfl⟩
  · exact ⟨[114, 117, 101], by kernel_rfl⟩
theorem keyT_inj {z z' : Bool} {ts ts' : List Tr} (hl : ts.length = ts'.length) (h1 : ∀ t ∈ ts, Pos t) (h2 : ∀ t ∈ ts', Pos t) (h : keyT z ts = keyT z' ts') : z = z' ∧ ts = ts' := by
  unfold keyT at h
  have hz : z = z' := by
    obtain ⟨r, e⟩ := fb_head z
    obtain ⟨r', e'⟩ := fb_head z'
    rw [e, e'] at h
    simp only [List.cons_append, List.cons.injEq] at h
    cases z <;> cases z' <;> simp at h ⊢
  subst hz
  exact ⟨rfl, flatK_inj ts ts' hl h1 h2 (List.append_cancel_left h)⟩
/-- The trackers of all relations behind a fraction. -/
def trsOf (l : List Rel) (d : List Nat) : List Tr := l.map fun r => frTr r d
def SameF (l : List Rel) (d e : List Nat) : Prop := trsOf l d = trsOf l e ∧ zer d = zer e
theorem SameF.snoc {l : List Rel} {d e : List Nat} (h : SameF l d e) (x : Nat) : SameF l (d ++ [x]) (e ++ [x]) := by
  refine ⟨?_, by rw [zer_snoc, zer_snoc, h.2]⟩
  unfold trsOf
  apply List.map_congr_left
  intro r hr
  rw [frTr_snoc, frTr_snoc]
  have : frTr r d = frTr r e := by
    have h1 := h.1
    unfold trsOf at h1
    exact (List.map_inj_left.1 h1) r hr
  rw [this]
def Cov (l : List Rel) (k : Nat) (ds : List (List Nat)) : Prop := ∀ d, Digs d → d.length = k → ∃ e ∈ ds, SameF l e d
theorem Cov.zero (l : List Rel) : Cov l 0 [[]] := fun d _ hd => ⟨[], by simp, by rw [List.length_eq_zero_iff.1 hd]; exact ⟨rfl, rfl⟩⟩
theorem Cov.next {l : List Rel} {k : Nat} {ds ds' : List (List Nat)} (h : Cov l k ds) (h' : ∀ e ∈ ds, ∀ x, x < 10 → ∃ e' ∈ ds', SameF l e' (e ++ [x])) : Cov l (k + 1) ds' := by
  intro d hd hk
  rcases List.eq_nil_or_concat d with rfl | ⟨d0, x, hdx⟩
  · simp at hk
  · rw [List.concat_eq_append] at hdx
    subst hdx
    have h0 : Digs d0 := fun y hy => hd y (List.mem_append_left _ hy)
    have hx : x < 10 := hd x (by simp)
    obtain ⟨e, he, hs⟩ := h d0 h0 (by simpa using hk)
    obtain ⟨e', he', hs'⟩ := h' e he x hx
    have := hs.snoc x
    exact ⟨e', he', hs'.1.trans this.1, hs'.2.trans this.2⟩
def fbits (l : List Rel) (d : List Nat) : Nat := if zer d = true then bitsOf l true (trsOf l d) else bitsOf l true (trsOf l d) ||| 9223372036854775808
theorem SameF.bits {l : List Rel} {d e : List Nat} (h : SameF l d e) : fbits l d = fbits l e := by
  unfold fbits
  rw [h.1, h.2]
def whBits (l : List Rel) (n : Nat) : Nat := bitsOf l false (l.map fun r => whTr r n)
/-- The trackers on the way: j of them are read. -/
def preT (l : List Rel) (f : Rel → Tr) (j : Nat) : List Tr := (l.take j).map f ++ List.replicate (l.length - j) (0, 0)
theorem preT_len {l : List Rel} {f : Rel → Tr} {j : Nat} (hj : j ≤ l.length) : (preT l f j).length = l.length := by
  unfold preT
  rw [List.length_append, List.length_map, List.length_take, List.length_replicate]
  omega
theorem preT_zero (l : List Rel) (f : Rel → Tr) : preT l f 0 = List.replicate l.length (0, 0) := by simp [preT]
theorem preT_full (l : List Rel) (f : Rel → Tr) : preT l f l.length = l.map f := by simp [preT]
theorem preT_get {l : List Rel} {f : Rel → Tr} {j : Nat} (hj : j < l.length) : (preT l f j)[j]? = some (0, 0) := by
  unfold preT
  rw [List.getElem?_append_right (by simp; omega), List.length_map, List.length_take, Nat.min_eq_left (by omega), Nat.sub_self, List.getElem?_replicate, if_pos (by omega)]
theorem preT_set {l : List Rel} {f : Rel → Tr} {j : Nat} {r : Rel} (hr : l[j]? = some r) : (preT l f j).set j (f r) = preT l f (j + 1) := by
  have hj := (List.getElem?_eq_some_iff.1 hr).1
  unfold preT
  have h1 : ((l.take j).map f).length = j := by rw [List.length_map, List.length_take]; omega
  rw [List.set_append_right _ _ (by omega), h1, Nat.sub_self, List.take_add_one, hr]
  have h2 : l.length - j = (l.length - (j + 1)) + 1 := by omega
  rw [h2, List.replicate_succ]
  simp
theorem preT_skip {l : List Rel} {f : Rel → Tr} {j : Nat} {r : Rel} (hr : l[j]? = some r) (h0 : f r = (0, 0)) : preT l f (j + 1) = preT l f j := by
  rw [← preT_set hr, h0]
  have hj := (List.getElem?_eq_some_iff.1 hr).1
  apply List.ext_getElem?
  intro i
  by_cases hi : j = i
  · subst hi
    rw [List.getElem?_set_self (by rw [preT_len (by omega)]; exact hj), preT_get hj]
  · rw [List.getElem?_set_ne hi]
/-- What holds tells of the relation i, given the bits of the two parts. -/
def holdB (l : List Rel) (wb fb : Nat) (i : Nat) : Bool := if (l.getD i r00).op = 1 ∧ fb.testBit 63 = true then (l.getD i r00).nt else if onWh (l.getD i r00) = true then wb.testBit i else fb.testBit i
theorem bits63 {l : List Rel} {bh : Bool} {ts : List Tr} (h : l.length ≤ 60) : (bitsOf l bh ts).testBit 63 = false := by
  unfold bitsOf
  rw [bitsN_test]
  simp
  omega
theorem holdB_num {l : List Rel} (hl : ∀ r ∈ l, relB r = true) (h60 : l.length ≤ 60) (x : Num) {m : Nat} (hm : ∀ r : Rel, relB r = true → red r m = red r (val x.wh)) {i : Nat} {r : Rel} (hr : l[i]? = some r) :
    holdB l (whBits l m) (fbits l x.fr) i = relH r x := by
  have hi := (List.getElem?_eq_some_iff.1 hr).1
  have hrB := hl r (List.mem_of_getElem? hr)
  have er : l.getD i r00 = r := by rw [List.getD_eq_getElem?_getD, hr]; rfl
  have hz : (fbits l x.fr).testBit 63 = !zer x.fr := by
    unfold fbits
    cases hz : zer x.fr with
    | true => rw [if_pos rfl, bits63 h60]; rfl
    | false =>
      rw [if_neg (by simp), Nat.testBit_or, bits63 h60, show (9223372036854775808 : Nat) = 2 ^ 63 from rfl, Nat.testBit_two_pow]
      rfl
  have hf : (fbits l x.fr).testBit i = (bitsOf l true (trsOf l x.fr)).testBit i := by
    unfold fbits
    split
    · rfl
    · rw [Nat.testBit_or, show (9223372036854775808 : Nat) = 2 ^ 63 from rfl, Nat.testBit_two_pow, decide_eq_false (by omega), Bool.or_false]
  have e1 : (l.map fun r => whTr r m).getD i (0, 0) = whTr r m := by rw [List.getD_eq_getElem?_getD, List.getElem?_map, hr]; rfl
  have e2 : (trsOf l x.fr).getD i (0, 0) = frTr r x.fr := by unfold trsOf; rw [List.getD_eq_getElem?_getD, List.getElem?_map, hr]; rfl
  rw [← cls_holds hrB x]
  unfold holdB clsH
  rw [er, hz, hf]
  unfold whBits bitsOf
  rw [bitsN_test, bitsN_test]
  unfold bitF
  rw [er, e1, e2]
  by_cases h1 : r.op = 1 ∧ zer x.fr = false
  · rw [if_pos ⟨h1.1, by rw [h1.2]; rfl⟩, if_pos h1]
  · rw [if_neg (by simpa using h1), if_neg h1]
    by_cases hw : onWh r = true
    · rw [if_pos hw, if_pos hw]
      unfold whTr
      rw [if_pos hw, hm r hrB]
      simp [hw, hi]
    · rw [if_neg hw, if_neg hw]
      simp at hw
      simp [hw, hi]
theorem trRead_range {r : Rel} (h : relB r = true) {t : Tr} (ht : (0 ≤ t.1 ∧ t.1 ≤ 101) ∧ (0 ≤ t.2 ∧ t.2 ≤ 101)) (bh : Bool) {d : Int} (hd : 0 ≤ d) : (0 ≤ (trRead r t bh d).1 ∧ (trRead r t bh d).1 ≤ 101) ∧ (0 ≤ (trRead r t bh d).2 ∧ (trRead r t bh d).2 ≤ 101) := by
  have h1 := red_range h (n := 10 * t.1 + d) (by omega)
  have h2 := red_range h (n := t.2 + 1) (by omega)
  have h3 := red_range h (n := 10 * t.2 + d) (by omega)
  unfold trRead
  repeat' split
  all_goals (first | omega | (simp only; omega))
theorem frTr_range {r : Rel} (h : relB r = true) (d : List Nat) : (0 ≤ (frTr r d).1 ∧ (frTr r d).1 ≤ 101) ∧ (0 ≤ (frTr r d).2 ∧ (frTr r d).2 ≤ 101) := by
  unfold frTr
  split
  · simp
  · induction d using snoc_ind with
    | h0 => simp [readL]
    | h l x ih =>
      rw [readL_snoc]
      exact trRead_range h ih _ (by omega)
theorem trsOf_pos {l : List Rel} (hl : ∀ r ∈ l, relB r = true) (d : List Nat) : ∀ t ∈ trsOf l d, Pos t := by
  intro t ht
  obtain ⟨r, hr, rfl⟩ := List.mem_map.1 ht
  have := frTr_range (hl r hr) d
  exact ⟨this.1.1, this.2.1⟩
def keyD (l : List Rel) (d : List Nat) : List UInt8 := keyT (zer d) (trsOf l d)
theorem keyD_inj {l : List Rel} (hl : ∀ r ∈ l, relB r = true) {d e : List Nat} (h : keyD l d = keyD l e) : SameF l d e := by
  have := keyT_inj (by simp [trsOf]) (trsOf_pos hl d) (trsOf_pos hl e) h
  exact ⟨this.2, this.1⟩
end Go.Proofs.YtbkcmgjmhglghaaGreatDoor
