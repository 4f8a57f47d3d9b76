/-
  decide.newClasses, fractions: tables, texts, keys; what lies in memory.
-/
import Derived.Test.YtbkcmgjmhglghaaGreatDoorWh1
import Derived.Test.YtbkcmgjmhglghaaGreatDoorWsh
import Derived.Lib.ItoaLen
import Derived.Lib.AppendIntMem
import Derived.StringKeys
namespace Go.Proofs.YtbkcmgjmhglghaaGreatDoor
open Go.RowKit

/-- The laid table of powers of ten. -/
def Tab (w : World) : Prop := Lib.TabIs Tryz.prog w "internal/strconv.uint64pow10" .u64 Lib.pow10Tab
theorem Tryz.gTab : Tryz.prog.globalNamed "internal/strconv.uint64pow10" = some 1 := by kernel_rfl
theorem Tab.kept {w w' : World} (h : Tab w) (hk : w'.heap[(1 : Nat)]? = w.heap[(1 : Nat)]?) : Tab w' := by
  unfold Tab Lib.TabIs World.var? at *
  rw [Tryz.gTab] at *
  simp only [Option.bind_some] at *
  rw [hk]
  exact h
theorem Tab.lt {w : World} (h : Tab w) : (1 : Nat) < w.heap.size := by
  unfold Tab Lib.TabIs World.var? at h
  rw [Tryz.gTab] at h
  simp only [Option.bind_some] at h
  rcases Nat.lt_or_ge (1 : Nat) w.heap.size with h1 | h1
  · exact h1
  · rw [Array.getElem?_eq_none h1] at h
    cases h
theorem Tab.below {w w' : World} {B : Nat} (h : Tab w) (hb : Below B w w') (hB : (1 : Nat) < B) : Tab w' := h.kept (hb.block _ hB)
theorem itoa_any (n : Nat) (h1 : n ≤ 1000000) (w : World) (ht : Tab w) : Calls Tryz.prog 75 #[.int .i64 n] w fun e w' => e = .returned (.string ⟨(Lib.itoa n).toArray⟩) ∧ Below w.heap.size w w' :=
  (Tryz.strconv_Itoa n (by omega) (by omega) w ht).mono (by rintro e w' ⟨rfl, k, os, rfl⟩; exact ⟨rfl, Lib.below_grow _ _ (Nat.le_refl _) _ _⟩)
theorem itoa_size (n : Nat) (h1 : n ≤ 1000000) : (ByteArray.mk (Lib.itoa n).toArray).size ≤ 21 := by
  have := Lib.itoa_length_le n (by omega) (by omega)
  simpa [ByteArray.size] using this
theorem fmtBool_any (b : Bool) (w : World) : Calls Tryz.prog 96 #[.bool b] w fun e w' => e = .returned (.string ⟨(Lib.formatBool b).toArray⟩) ∧ w = w' :=
  (Tryz.strconv_FormatBool b w).mono fun _ _ h => ⟨h.1, h.2.symm⟩
/-- make([]tracker, n). -/
theorem Tryz.infoTrk : (Tryz.prog.info? 70).map (fun i => (i.zero, i.size, i.bytes)) = some (some (.agg #[.int .i64 0, .int .i64 0]), 2, 16) := by kernel_rfl
theorem made_pair (n : Nat) : madeCells #[.int .i64 0, .int .i64 0] (n * 2) = ((List.replicate n ((0, 0) : Tr)).flatMap trC).toArray := by
  apply Array.ext'
  apply List.ext_getElem?
  intro i
  have hl : ((List.replicate n ((0, 0) : Tr)).flatMap trC).length = n * 2 := by rw [flat_len trC 2 trC_len]; simp
  by_cases hi : i < n * 2
  · have e := flat_get trC 2 trC_len (List.replicate n ((0, 0) : Tr)) (i / 2) (i % 2) (0, 0) (by rw [List.getElem?_replicate, if_pos (by omega)]) (by omega)
    rw [show i / 2 * 2 + i % 2 = i from by omega] at e
    show _ = ((List.replicate n ((0, 0) : Tr)).flatMap trC)[i]?
    rw [e]
    have : i % 2 = 0 ∨ i % 2 = 1 := by omega
    rcases this with h | h <;> simp [madeCells, hi, h, trC]
  · rw [List.getElem?_eq_none (by simp [size_madeCells]; omega), List.getElem?_eq_none (by show _ ≤ i; rw [hl]; omega)]
theorem made_trackers (n : Nat) (hn : n ≤ 1000) (w : World) : (Instr.makeSlice 127 (.int .i64 (n : Int)) (.int .i64 (n : Int))).run Tryz.prog w = .ok (.slice (some ⟨w.heap.size, 0, none⟩) n n) (w.alloc (.cells ((List.replicate n ((0, 0) : Tr)).flatMap trC).toArray 70)) := by
  obtain ⟨j0, hj, hz0, hz1, hz2⟩ := info_parts Tryz.infoTrk
  have hr := run_make (P := Tryz.prog) (w := w) 127 70 j0 (.agg #[.int .i64 0, .int .i64 0]) Tryz.underlying127 hj hz0 .i64 .i64 n n (by omega) (Int.le_refl _) (by rw [hz2]; omega) (by omega)
  simp only [Int.toNat_natCast, hz1] at hr
  rw [← made_pair]
  exact hr
theorem TrAt.made (w : World) (n : Nat) : TrAt (w.alloc (.cells ((List.replicate n ((0, 0) : Tr)).flatMap trC).toArray 70)) w.heap.size (List.replicate n ((0, 0) : Tr)) := heap_alloc_new w _
theorem flat_set2 (ts : List Tr) (i : Nat) (t : Tr) (hi : i < ts.length) : (((ts.flatMap trC).set (i * 2) (.int .i64 t.1)).set (i * 2 + 1) (.int .i64 t.2)) = (ts.set i t).flatMap trC := by
  induction ts generalizing i with
  | nil => simp
  | cons a ts ih =>
    cases i with
    | zero => rfl
    | succ i =>
      have : (i + 1) * 2 = i * 2 + 1 + 1 := by omega
      rw [this]
      simp only [List.flatMap_cons, trC, List.cons_append, List.nil_append, List.set_cons_succ]
      rw [show (List.set ts i t).flatMap trC = ((ts.flatMap trC).set (i * 2) (.int .i64 t.1)).set (i * 2 + 1) (.int .i64 t.2) from (ih i (by simp at hi; exact hi)).symm]
theorem TrAt.set1 {W : World} {b : Nat} {ts : List Tr} (h : TrAt W b ts) {i : Nat} (hi : i < ts.length) (x : Int) (hx : ts[i]? = some (0, 0)) : TrAt (W.setCell ⟨b, i * 2, none⟩ (.int .i64 x)) b (ts.set i (x, 0)) := by
  have h1 := Lib.heap_setCell_same (i := i * 2) h (.int .i64 x)
  unfold TrAt
  rw [h1, ← flat_set2 ts i (x, 0) hi]
  have hz : ((ts.flatMap trC).set (i * 2) (Value.int .i64 x))[i * 2 + 1]? = some (Value.int .i64 0) := by
    rw [List.getElem?_set_ne (by omega), flat_get trC 2 trC_len ts i 1 (0, 0) hx (by omega)]
    rfl
  congr 3
  have : ((ts.flatMap trC).set (i * 2) (Value.int .i64 x)).set (i * 2 + 1) (.int .i64 0) = (ts.flatMap trC).set (i * 2) (Value.int .i64 x) := by
    apply List.ext_getElem?
    intro j
    by_cases hj : i * 2 + 1 = j
    · subst hj
      rw [List.getElem?_set_self (by rw [List.length_set, flat_len trC 2 trC_len]; omega), hz]
    · rw [List.getElem?_set_ne hj]
  show ((ts.flatMap trC).toArray.set! _ _) = _
  simp [this]
theorem TrAt.set2 {W : World} {b : Nat} {ts : List Tr} (h : TrAt W b ts) {i : Nat} (hi : i < ts.length) (t : Tr) : TrAt ((W.setCell ⟨b, i * 2, none⟩ (.int .i64 t.1)).setCell ⟨b, i * 2 + 1, none⟩ (.int .i64 t.2)) b (ts.set i t) := by
  have h1 := Lib.heap_setCell_same (i := i * 2) h (.int .i64 t.1)
  have h2 := Lib.heap_setCell_same (i := i * 2 + 1) h1 (.int .i64 t.2)
  unfold TrAt
  rw [h2, ← flat_set2 ts i t hi]
  simp
/-- Keys. -/
def ba (l : List UInt8) : ByteArray := ⟨l.toArray⟩
theorem ba_add (a b : List UInt8) : ba a ++ ba b = ba (a ++ b) := by
  apply ByteArray.ext
  simp [ba, ByteArray.data_append]
theorem ba_size (a : List UInt8) : (ba a).size = a.length := by simp [ba, ByteArray.size]
def trK (t : Tr) : List UInt8 := 32 :: Lib.itoa t.1 ++ (32 :: Lib.itoa t.2)
def keyT (z : Bool) (ts : List Tr) : List UInt8 := Lib.formatBool z ++ ts.flatMap trK
/-- A set of texts. -/
def MapB (w : World) (b : Nat) (ks : List (List UInt8)) : Prop :=
  ∃ (D : DataW Unit) (n : Nat), w.ownsMap Tryz.prog 9 (plainElem Tryz.prog 4) b n D ∧ n ≤ ks.length ∧ ∀ K : List UInt8, K.length ≤ 5000 → D.atKey (.string K) (.lit (.bool false)) = .lit (.bool (decide (K ∈ ks)))
theorem MapB.made (w : World) : MapB (w.alloc (.map #[] 0)) w.heap.size [] := ⟨.map [], 0, World.ownsMap_made w _ _ _, Nat.le_refl _, fun _ _ => rfl⟩
theorem MapB.kept {w w' : World} {b : Nat} {ks : List (List UInt8)} {row : Option Nat} (h : MapB w b ks) (hg : w.grownBy w' row) (hne : some b ≠ row) : MapB w' b ks := by
  obtain ⟨D, n, h1, h2⟩ := h
  exact ⟨D, n, h1.kept hg hne, h2⟩
theorem MapB.isMap {w : World} {b : Nat} {ks : List (List UInt8)} (h : MapB w b ks) : ∃ es clock, w.heap[b]? = some (.map es clock) := by
  obtain ⟨D, n, ⟨es, clock, hb, _⟩, _⟩ := h
  exact ⟨es, clock, hb⟩
theorem key_str {K : List UInt8} (hK : K.length ≤ 5000) : keyOf Tryz.prog 9 (.string (ba K)) = some (.string K) := by
  have := WideMaps.keyOf_string_mk (P := Tryz.prog) (k := 9) Tryz.underlying9 (s := ba K) (by rw [ba_size]; unfold maxLen; omega)
  simpa [ba] using this
set_option maxRecDepth 100000 in
theorem wpList_lookB {ops : Array Oper} {rest : List Oper} {o : Oper} {a : Act} {Q : Exit → Act → World → Prop} {w : World} (hg : o.guard = none) (m x : Operand) (hop : o.op = Op.lookup 150 m x false)
    (b : Nat) (ks : List (List UInt8)) (hm : a.eval m = .map (some b)) (h : MapB w b ks) (K : List UInt8) (hK : K.length ≤ 5000) (hx : a.eval x = .string (ba K))
    (hk : wpList Tryz.prog ops Q rest (a.put o.dst (.bool (decide (K ∈ ks)))) w) : wpList Tryz.prog ops Q (o :: rest) a w := by
  obtain ⟨D, n, h1, h2, h3⟩ := h
  refine wpList_plain hg fun K' hK' => ?_
  obtain ⟨v, ps, hrun, hv⟩ := h1.lookup Tryz.keyedStr Tryz.underlying150 (z := .bool false) (by kernel_rfl) (plainElem_bool Tryz.underlying4 false) (key_str hK)
  rw [h3 K hK] at hv
  have : v = .bool (decide (K ∈ ks)) := by
    unfold plainElem at hv
    rw [Tryz.underlying4] at hv
    cases v <;> simp at hv
    rw [← hv.1]
  subst this
  unfold Oper.wp
  simp [execOp, hop, hm, hx, hrun, Result.andThen]
  exact hK' _ _ hk
set_option maxRecDepth 100000 in
theorem wpList_putB {ops : Array Oper} {rest : List Oper} {o : Oper} {a : Act} {Q : Exit → Act → World → Prop} {w : World} (hg : o.guard = none) (m x v : Operand) (hop : o.op = Op.mapUpdate 150 m x v)
    (b : Nat) (ks : List (List UInt8)) (hm : a.eval m = .map (some b)) (h : MapB w b ks) (hks : ks.length ≤ 1000000000) (K : List UInt8) (hK : K.length ≤ 5000) (hx : a.eval x = .string (ba K)) (hv : a.eval v = .bool true)
    (hk : ∀ w', MapB w' b (ks ++ [K]) → w.grownBy w' (some b) → wpList Tryz.prog ops Q rest (a.put o.dst undef) w') : wpList Tryz.prog ops Q (o :: rest) a w := by
  obtain ⟨D, n, h1, h2, h3⟩ := h
  refine wpList_mapUpdate_own w hg m x v _ hop 9 4 Tryz.keyedStr Tryz.underlying150 _ b n D hm h1 (by unfold maxLen; omega) _ _ (.string K) hx hv (key_str hK) (.lit (.bool true)) [] (plainElem_bool Tryz.underlying4 true) ?_
  intro w' h4 h5
  refine hk w' ⟨_, n + 1, h4, by simp; omega, fun K' hK' => ?_⟩ h5
  have htidy := h1.tidy Tryz.keyedStr
  by_cases he : K' = K
  · subst he
    rw [Maps.atKey_put_same htidy.isMap (Tryz.keyedStr.key (key_str hK))]
    simp
  · rw [Maps.atKey_put_other (by intro h; injection h with h; exact he h), h3 K' hK']
    simp [he]
theorem wpList_lookV {ops : Array Oper} {rest : List Oper} {o : Oper} {a : Act} {Q : Exit → Act → World → Prop} {w : World} (hg : o.guard = none) (m x : Operand) (hop : o.op = Op.lookup 150 m x false)
    (b : Nat) (ks : List (List UInt8)) (hm : a.eval m = .map (some b)) (h : MapB w b ks) (K : List UInt8) (hK : K.length ≤ 5000) (hx : a.eval x = .string (ba K)) (v : Bool) (hv : K ∈ ks ↔ v = true)
    (hk : wpList Tryz.prog ops Q rest (a.put o.dst (.bool v)) w) : wpList Tryz.prog ops Q (o :: rest) a w := by
  refine wpList_lookB hg m x hop b ks hm h K hK hx ?_
  have e : decide (K ∈ ks) = v := by
    cases v
    · exact decide_eq_false (fun h => by simpa using hv.1 h)
    · exact decide_eq_true (hv.2 rfl)
  rw [e]
  exact hk
theorem itoa_len {n : Int} (h0 : 0 ≤ n) (h1 : n ≤ 101) : (Lib.itoa n).length ≤ 21 := Lib.itoa_length_le n (by omega) (by omega)
theorem keyT_len {z : Bool} {ts : List Tr} (h : ∀ t ∈ ts, (0 ≤ t.1 ∧ t.1 ≤ 101) ∧ (0 ≤ t.2 ∧ t.2 ≤ 101)) : (keyT z ts).length ≤ 5 + 44 * ts.length := by
  have h1 : (Lib.formatBool z).length ≤ 5 := by cases z <;> decide
  have h2 : (ts.flatMap trK).length ≤ 44 * ts.length := by
    clear h1
    induction ts with
    | nil => simp
    | cons t ts ih =>
      have a := h t List.mem_cons_self
      have b := ih fun t ht => h t (List.mem_cons_of_mem _ ht)
      have c1 := itoa_len a.1.1 a.1.2
      have c2 := itoa_len a.2.1 a.2.2
      have e : (List.flatMap trK (t :: ts)).length = (trK t).length + (List.flatMap trK ts).length := by rw [List.flatMap_cons, List.length_append]
      have e2 : (trK t).length = (Lib.itoa t.1).length + (Lib.itoa t.2).length + 2 := by simp [trK]; omega
      rw [e, e2, List.length_cons]
      omega
  unfold keyT
  rw [List.length_append]
  omega
end Go.Proofs.YtbkcmgjmhglghaaGreatDoor
