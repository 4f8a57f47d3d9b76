/-
  The levels and the order of the text around an isolate, as one list; without the program.
-/
import Derived.Test.YtgefbagojghmeaaOr3
import Derived.Test.YtgefbagojghmeaaOr1
import Derived.Test.YtgefbagojghmeaaU8c
import Derived.Test.YtgefbagojghmeaaLawBidiParity
import Derived.Deep.RegionHeld3
import Derived.Deep.DrawnRows
/-! The elements of two strings, one after the other, where the second one begins with a byte that continues nothing. -/
namespace Go.Proofs.Ytgefbagojghmeaa
namespace U8
open Go.Lib

set_option maxHeartbeats 2000000 in
theorem decodeN_lead (n m b0 b1 b2 b3 c1 c2 c3 : Nat) (hm : n ≤ m) (h0 : 1 ≤ n) (h1 : 1 < n → c1 = b1) (h2 : 2 < n → c2 = b2) (h3 : 3 < n → c3 = b3) (k1 : n = 1 → c1 / 64 ≠ 2) (k2 : n = 2 → c2 / 64 ≠ 2) (k3 : n = 3 → c3 / 64 ≠ 2) :
    decodeN m b0 c1 c2 c3 = decodeN n b0 b1 b2 b3 := by
  by_cases q3 : 3 < n
  · rw [h1 (by omega), h2 (by omega), h3 q3]
    have e1 : (1 < m) = True := by simp; omega
    have e2 : (2 < m) = True := by simp; omega
    have e3 : (3 < m) = True := by simp; omega
    have f1 : (1 < n) = True := by simp; omega
    have f2 : (2 < n) = True := by simp; omega
    have f3 : (3 < n) = True := by simp; omega
    simp only [decodeN, e1, e2, e3, f1, f2, f3]
  · by_cases q2 : 2 < n
    · rw [h1 (by omega), h2 q2]
      have hk := k3 (by omega)
      have e1 : (1 < m) = True := by simp; omega
      have e2 : (2 < m) = True := by simp; omega
      have f1 : (1 < n) = True := by simp; omega
      have f2 : (2 < n) = True := by simp; omega
      have f3 : (3 < n) = False := by simp; omega
      simp only [decodeN, e1, e2, f1, f2, f3, hk, false_and, and_false, true_and, if_false]
    · by_cases q1 : 1 < n
      · rw [h1 q1]
        have hk := k2 (by omega)
        have e1 : (1 < m) = True := by simp; omega
        have f1 : (1 < n) = True := by simp; omega
        have f2 : (2 < n) = False := by simp; omega
        have f3 : (3 < n) = False := by simp; omega
        simp only [decodeN, e1, f1, f2, f3, hk, false_and, and_false, true_and, if_false]
      · have hk := k1 (by omega)
        have f1 : (1 < n) = False := by simp; omega
        have f2 : (2 < n) = False := by simp; omega
        have f3 : (3 < n) = False := by simp; omega
        simp only [decodeN, f1, f2, f3, hk, false_and, and_false, if_false]
theorem getD_mid (l t : List UInt8) (c : UInt8) : (l ++ c :: t).getD l.length 0 = c := by
  simp [List.getD]
theorem decodeL_lead (l t : List UInt8) (c : UInt8) (hc : c.toNat / 64 ≠ 2) (hne : l ≠ []) : decodeL (l ++ c :: t) = decodeL l := by
  have hl : 0 < l.length := List.length_pos_iff.2 hne
  have hmid := getD_mid l t c
  rw [decodeL_N l, decodeL_N (l ++ c :: t), getD_append l _ 0 hl, List.length_append]
  exact decodeN_lead _ _ _ _ _ _ _ _ _ (by omega) hl (fun h => by rw [getD_append l _ 1 h]) (fun h => by rw [getD_append l _ 2 h]) (fun h => by rw [getD_append l _ 3 h]) (fun h => by rw [h] at hmid; rw [hmid]; exact hc) (fun h => by rw [h] at hmid; rw [hmid]; exact hc) (fun h => by rw [h] at hmid; rw [hmid]; exact hc)
theorem els_lead (t : List UInt8) (c : UInt8) (hc : c.toNat / 64 ≠ 2) : ∀ (n : Nat) (l : List UInt8), l.length ≤ n → els (l ++ c :: t) = els l ++ els (c :: t)
  | 0, l, h => by
    have : l = [] := List.eq_nil_of_length_eq_zero (by omega)
    subst this
    simp [els_nil]
  | n + 1, l, h => by
    by_cases hne : l = []
    · subst hne; simp [els_nil]
    · have hw := decodeL_width l
      have hne' : l ++ c :: t ≠ [] := by simp
      have hl : 0 < l.length := List.length_pos_iff.2 hne
      have hwl := decodeL_le l hne
      have ih := els_lead t c hc n (l.drop (decodeL l).2) (by rw [List.length_drop]; omega)
      rw [els_step (l ++ c :: t) hne', decodeL_lead l t c hc hne, List.drop_append_of_le_length hwl, ih, els_step l hne]
      simp
end U8
end Go.Proofs.Ytgefbagojghmeaa
namespace Go.Proofs.Ytgefbagojghmeaa
open Go.RowKit

/-- append of integers that lie somewhere to a row of the call's own, as a run. -/
theorem app_ints {w : World} {base n m c : Nat} {v : Value} {xs : List Value} {ad : Addr} {ys : List Int} (hown : w.ownsRow base 3 1 v n xs) (hm : ys.length = m) (hc : ∀ j, j < m → w.cell? (ad.add j) = some (.int .i64 (ys.getD j 0))) (hl : n + m ≤ 100000) (hb : base ≤ w.heap.size) :
    ∃ v' w', (Builtin.append_ #[24, 24] 24 #[v, .slice (some ad) m c]).run Try.prog w = .ok v' w' ∧ w'.ownsRow base 3 1 v' (n + m) (xs ++ ys.map (Value.int .i64)) ∧ w.grownBy w' v.ownBlock := by
  obtain ⟨i9, hi9, hz0, hz1, hz2⟩ := info_parts Try.infoInt
  obtain ⟨v', w', r1, r2, r3, _⟩ := run_append_own (P := Try.prog) (w := w) base 24 24 3 i9 (.int .i64 0) 1 8 Try.underlying24 hi9 hz0 hz1 hz2 rfl (by decide) v n xs hown ad m c (ys.map (Value.int .i64)) (by rw [List.length_map]; omega) (fun j u hj => by
    obtain ⟨hj', he⟩ := List.getElem?_eq_some_iff.1 hj
    rw [List.length_map] at hj'
    rw [hc j (by omega), ← he]
    simp [List.getD, hj']) (by intro u hu; obtain ⟨y, _, rfl⟩ := List.mem_map.1 hu; rfl) (by unfold maxLen; omega) (by omega) hb
  exact ⟨v', w', r1, r2, r3⟩
theorem wp_append_runI {P : Program} {w : World} {o : Oper} {a : Act} {K : Act → World → Prop} {Q : Exit → Act → World → Prop} (s x : Operand) (t : TypeId)
    (ho : o.op = .call { callee := .builtin .append, args := #[s, x], argTypes := #[t, t] }) (v u v' : Value) (w' : World) (hs : a.eval s = v) (hx : a.eval x = u)
    (hrun : (Builtin.append_ #[t, t] o.type #[v, u]).run P w = .ok v' w') (h : K (a.put o.dst v') w') : o.wp P a w K Q := by
  unfold Oper.wp
  simp [execOp, ho, resolve, invoke, builtin, hs, hx, hrun, Result.andThen]
  exact h
theorem step_append_runI {P : Program} {w : World} {ops : Array Oper} {o : Oper} {a : Act} {K : Act → World → Prop} {Q : Exit → Act → World → Prop} {E : Prop} {R : Value → World → Prop} (hgd : o.guard = none) (s x : Operand) (t : TypeId)
    (ho : o.op = .call { callee := .builtin .append, args := #[s, x], argTypes := #[t, t] }) (v u : Value) (hs : a.eval s = v) (hx : a.eval x = u)
    (hrun : ∃ v' w', (Builtin.append_ #[t, t] o.type #[v, u]).run P w = .ok v' w' ∧ R v' w') (h : ∀ v' w', R v' w' → K (a.put o.dst v') w') :
    if Region.wanted o (yielded ops a.tmps) = true then Oper.wp P o a w K Q else E := by
  have hw : Region.wanted o (yielded ops a.tmps) = true := by simp [Region.wanted, hgd]
  rw [if_pos hw]
  obtain ⟨v', w', r1, r2⟩ := hrun
  exact wp_append_runI s x t ho v u v' w' hs hx r1 (h v' w' r2)

/-- bidi.Levels of a text that is not too deep: a row of its own. -/
theorem levelsO_any (s : ByteArray) (rtl : Bool) (hs : s.size ≤ 10000) (xs : List Int) (hx : ints (U8.els s.data.toList) = xs) (hl : xs.length ≤ 400) (hmh : mh 0 xs ≤ 30) (W : World) :
    Calls Try.prog 18 #[.string s, .bool rtl] W fun e W' => ∃ r, e = .returned (.tuple #[r, .int .i64 0]) ∧ W'.ownsRow W.heap.size 3 1 r xs.length ((lev xs (eOf rtl)).map (Value.int .i64)) ∧ Below W.heap.size W W' := by
  subst hx
  refine (levelsE_any s rtl hs hl W).mono fun e W' h => ?_
  obtain ⟨q1, q2⟩ := h
  rcases q1 with ⟨q3, _⟩ | ⟨_, r, q4, q5⟩
  · exact absurd q3 (Nat.not_lt.2 hmh)
  · exact ⟨r, q4, q5, q2⟩

theorem natI_size (l : List Nat) : (natI l).length = l.length := by unfold natI; rw [List.length_map]
theorem cells_take {W : World} {g m n : Nat} {L : List Int} (h : ∀ j, j < m → W.cell? ⟨g, j, none⟩ = some (.int .i64 (L.getD j 0))) (hn : n ≤ m) : ∀ j, j < n → W.cell? ((⟨g, 0, none⟩ : Addr).add j) = some (.int .i64 ((L.take n).getD j 0)) := by
  intro j hj
  have e : (⟨g, 0, none⟩ : Addr).add j = ⟨g, j, none⟩ := by unfold Addr.add; split <;> simp_all
  rw [e, h j (by omega)]
  simp [List.getD, hj]
theorem cells_drop {W : World} {g m q : Nat} {L : List Int} (h : ∀ j, j < m → W.cell? ⟨g, j, none⟩ = some (.int .i64 (L.getD j 0))) : ∀ j, j < m - q → W.cell? ((⟨g, q, none⟩ : Addr).add j) = some (.int .i64 ((L.drop q).getD j 0)) := by
  intro j hj
  have e : (⟨g, q, none⟩ : Addr).add j = ⟨g, q + j, none⟩ := by unfold Addr.add; split <;> simp_all
  rw [e, h (q + j) (by omega)]
  simp [List.getD]
theorem take_fm {Q : List Nat} {f : Nat → Option Nat} {c : Nat} (hc : c < Q.length) : (Q.take (c + 1)).filterMap f = (Q.take c).filterMap f ++ (f (Q.getD c 0)).toList := by
  rw [List.take_succ_eq_append_getElem hc, List.filterMap_append]
  have e : Q.getD c 0 = Q[c] := by simp [List.getD, hc]
  rw [e]
  congr 1
def accL (L : List Int) (n k : Nat) (Q : List Nat) (c : Nat) : List Int := L.take n ++ (L.drop (n + k) ++ natI ((Q.take c).filterMap (skipI n k)))
theorem acc_none {L : List Int} {n k : Nat} {Q : List Nat} {c : Nat} (hc : c < Q.length) (h : skipI n k (Q.getD c 0) = none) : accL L n k Q (c + 1) = accL L n k Q c := by
  unfold accL
  rw [take_fm hc, h]
  simp
theorem acc_some {L : List Int} {n k : Nat} {Q : List Nat} {c y : Nat} (hc : c < Q.length) (h : skipI n k (Q.getD c 0) = some y) : accL L n k Q (c + 1) = accL L n k Q c ++ [(y : Int)] := by
  unfold accL
  rw [take_fm hc, h]
  simp [natI]
theorem acc_len {L : List Int} {n k : Nat} {Q : List Nat} {c : Nat} : (accL L n k Q c).length ≤ 2 * L.length + c := by
  unfold accL
  have h1 := List.length_filterMap_le (skipI n k) (Q.take c)
  have h2 : (Q.take c).length ≤ c := by rw [List.length_take]; exact Nat.min_le_left _ _
  simp only [List.length_append, List.length_take, List.length_drop, natI_size]
  omega

def aroundL (L : List Int) (n k : Nat) : List Int := L.take n ++ (L.drop (n + k) ++ natI ((order L).filterMap (skipI n k)))
theorem natI_get {l : List Nat} {i : Nat} (h : i < l.length) : (natI l).getD i 0 = ((l.getD i 0 : Nat) : Int) := by
  unfold natI
  simp [List.getD, h]
theorem aroundL_len (L : List Int) (n k : Nat) : (aroundL L n k).length ≤ 3 * L.length := by
  unfold aroundL
  have h1 := List.length_filterMap_le (skipI n k) (order L)
  have h2 : (order L).length ≤ L.length := by
    unfold order
    split
    · rw [ordN_len, List.length_range]
      exact Nat.le_refl _
    · exact Nat.zero_le _
  simp only [List.length_append, List.length_take, List.length_drop, natI_size]
  omega
theorem lev_fine {xs : List Int} {rtl : Bool} (h : mh 0 xs ≤ 30) : okLv (lev xs (eOf rtl)) = true := by
  refine okLv_of fun i hi => ?_
  rw [lev_len] at hi
  have he : (0 : Int) ≤ eOf rtl ∧ eOf rtl ≤ 1 := by unfold eOf; split <;> omega
  obtain ⟨_, _, _, h1, h2⟩ := lev_at (xs := xs) (e := eOf rtl) he.1 hi
  omega
theorem skip_two (n k : Nat) (l : List Nat) : l.filterMap (skipI n (k + 2)) = (l.filterMap (skipI (n + 1) k)).filterMap (skipI n 2) := by
  rw [List.filterMap_filterMap]
  refine fm_congr fun x _ => ?_
  unfold skipI
  by_cases h1 : x < n
  · rw [if_pos h1, if_pos (by omega)]
    simp [h1]
  · rw [if_neg h1]
    by_cases h2 : n + (k + 2) ≤ x
    · rw [if_pos h2, if_neg (by omega), if_pos (by omega)]
      dsimp only [Option.bind]
      rw [if_neg (by omega), if_pos (by omega)]
      congr 1
    · rw [if_neg h2]
      by_cases h3 : x < n + 1
      · rw [if_pos h3]
        dsimp only [Option.bind]
        rw [if_neg (by omega), if_neg (by omega)]
      · rw [if_neg h3]
        by_cases h4 : n + 1 + k ≤ x
        · rw [if_pos h4]
          dsimp only [Option.bind]
          rw [if_neg (by omega), if_neg (by omega)]
        · rw [if_neg h4]
          rfl
theorem around_form {LA LX LB : List Int} {v : Int} (hLX : ∀ x ∈ LX, v ≤ x) (hok : okLv (LA ++ v :: (LX ++ v :: LB)) = true) :
    aroundL (LA ++ v :: (LX ++ v :: LB)) (LA.length + 1) LX.length = (LA ++ [v]) ++ (v :: LB ++ natI (order (LA ++ v :: v :: LB))) ∧
    aroundL (LA ++ v :: (LX ++ v :: LB)) LA.length (LX.length + 2) = LA ++ (LB ++ natI ((order (LA ++ v :: v :: LB)).filterMap (skipI LA.length 2))) := by
  have e := order_skip hLX hok
  unfold aroundL
  rw [skip_two, e]
  have e1 : LA ++ v :: (LX ++ v :: LB) = (LA ++ [v]) ++ (LX ++ v :: LB) := by simp
  have e2 : LA ++ v :: (LX ++ v :: LB) = (LA ++ [v] ++ LX) ++ (v :: LB) := by simp
  have e3 : LA ++ v :: (LX ++ v :: LB) = (LA ++ [v] ++ LX ++ [v]) ++ LB := by simp
  have t1 : (LA ++ v :: (LX ++ v :: LB)).take (LA.length + 1) = LA ++ [v] := by
    rw [e1, show LA.length + 1 = (LA ++ [v]).length by simp, List.take_left]
  have t2 : (LA ++ v :: (LX ++ v :: LB)).drop (LA.length + 1 + LX.length) = v :: LB := by
    rw [e2, show LA.length + 1 + LX.length = (LA ++ [v] ++ LX).length by simp; omega, List.drop_left]
  have t3 : (LA ++ v :: (LX ++ v :: LB)).drop (LA.length + (LX.length + 2)) = LB := by
    rw [e3, show LA.length + (LX.length + 2) = (LA ++ [v] ++ LX ++ [v]).length by simp, List.drop_left]
  have t4 : (LA ++ v :: (LX ++ v :: LB)).take LA.length = LA := List.take_left ..
  rw [t1, t2, t3, t4]
  exact ⟨rfl, rfl⟩
theorem around_iso {o p : Int} (ho : initB o = true) (hp : initB p = false ∧ termB p = true) {A X Y B : List Int} (hX : cnt 0 X = true) (hY : cnt 0 Y = true) {rtl : Bool} (dX : mh 0 (A ++ o :: (X ++ p :: B)) ≤ 30) (dY : mh 0 (A ++ o :: (Y ++ p :: B)) ≤ 30) :
    aroundL (lev (A ++ o :: (X ++ p :: B)) (eOf rtl)) (A.length + 1) X.length = aroundL (lev (A ++ o :: (Y ++ p :: B)) (eOf rtl)) (A.length + 1) Y.length ∧
    aroundL (lev (A ++ o :: (X ++ p :: B)) (eOf rtl)) A.length (X.length + 2) = aroundL (lev (A ++ o :: (Y ++ p :: B)) (eOf rtl)) A.length (Y.length + 2) := by
  have h1 := lev_fine (rtl := rtl) dX
  have h2 := lev_fine (rtl := rtl) dY
  rw [lev_levI] at h1 h2 ⊢
  rw [lev_levI (A ++ o :: (Y ++ p :: B))]
  have hs := lev_iso ho hp X Y hX hY (A ++ o :: (X ++ p :: B)).length (A ++ o :: (Y ++ p :: B)).length A B (eOf rtl) (own (eOf rtl)) (Nat.le_refl _) (Nat.le_refl _) (by unfold eOf; split <;> omega) (own_or _)
  obtain ⟨LA, v, LX, LY, LB, q1, q2, l1, l2, l3, l4, g1, g2⟩ := hs
  rw [q1] at h1 ⊢
  rw [q2] at h2 ⊢
  obtain ⟨f1, f2⟩ := around_form g1 h1
  obtain ⟨f3, f4⟩ := around_form g2 h2
  rw [← l1, ← l2, ← l3, f1, f2, f3, f4]
  exact ⟨rfl, rfl⟩

/-! ### The text as elements -/
theorem ints_app (a b : List Nat) : ints (a ++ b) = ints a ++ ints b := List.map_append
def opens : Nat → ByteArray
  | 0 => ⟨#[226, 129, 166]⟩
  | 1 => ⟨#[226, 129, 167]⟩
  | _ => ⟨#[226, 129, 168]⟩
def openI : Nat → Int
  | 0 => 8294
  | 1 => 8295
  | _ => 8296
theorem openI_init (m : Nat) : initB (openI m) = true := by
  match m with
  | 0 => decide
  | 1 => decide
  | _ + 2 => show initB 8296 = true; decide
theorem els_pre3 (c d : UInt8) (n : Nat) (hv : Lib.validD [226, c, d] = true) (he : U8.els [226, c, d] = [n]) (l t : List UInt8) : ints (U8.els (l ++ ([226, c, d] ++ t))) = ints (U8.els l) ++ (n : Int) :: ints (U8.els t) := by
  have h1 : l ++ ([226, c, d] ++ t) = l ++ 226 :: ([c, d] ++ t) := rfl
  have h2 : (226 :: ([c, d] ++ t) : List UInt8) = [226, c, d] ++ t := rfl
  rw [h1, U8.els_lead _ _ (by decide) l.length l (Nat.le_refl _), h2, (U8.els_append 3 [226, c, d] t (Nat.le_refl _) hv).1, he, ints_app]
  rfl
theorem els_open (m : Nat) (l t : List UInt8) : ints (U8.els (l ++ ((opens m).data.toList ++ t))) = ints (U8.els l) ++ openI m :: ints (U8.els t) := by
  match m with
  | 0 => exact els_pre3 129 166 8294 (by decide) (by decide) l t
  | 1 => exact els_pre3 129 167 8295 (by decide) (by decide) l t
  | _ + 2 => exact els_pre3 129 168 8296 (by decide) (by decide) l t
theorem els_shut (l t : List UInt8) : ints (U8.els (l ++ ([226, 129, 169] ++ t))) = ints (U8.els l) ++ 8297 :: ints (U8.els t) := els_pre3 129 169 8297 (by decide) (by decide) l t
theorem bytes_app (a b : ByteArray) : (a ++ b).data.toList = a.data.toList ++ b.data.toList := by
  rw [ByteArray.data_append, Array.toList_append]
theorem els_text (m : Nat) (A X B : ByteArray) : ints (U8.els (A ++ opens m ++ X ++ (⟨#[226, 129, 169]⟩ : ByteArray) ++ B).data.toList) = ints (U8.els A.data.toList) ++ openI m :: (ints (U8.els X.data.toList) ++ 8297 :: ints (U8.els B.data.toList)) := by
  rw [bytes_app, bytes_app, bytes_app, bytes_app, List.append_assoc, List.append_assoc, List.append_assoc, els_open]
  have : (⟨#[226, 129, 169]⟩ : ByteArray).data.toList = [226, 129, 169] := rfl
  rw [this, els_shut]
theorem pdi_shut : initB 8297 = false ∧ termB 8297 = true := by decide
end Go.Proofs.Ytgefbagojghmeaa
