/-
  Automata, plain: tables of what can be reached, classes of states, and the table of a condition.
-/
import Derived.Test.YtbkcmgjmhglghaaGreatDoorWp0
namespace Go.Proofs.YtbkcmgjmhglghaaGreatDoor

/-! ### Counting -/
theorem covers {n : Nat} {l : List Nat} (h : ∀ k, k < n → k ∈ l) : n ≤ l.length := by
  induction n generalizing l with
  | zero => omega
  | succ n ih =>
    have h1 : n ≤ (l.filter (· != n)).length := ih fun k hk => by
      rw [List.mem_filter]
      exact ⟨h k (by omega), by simp; omega⟩
    have h2 : (l.filter (· != n)).length < l.length := by
      refine Nat.lt_of_le_of_ne (List.length_filter_le _ _) fun he => ?_
      have := (List.length_filter_eq_length_iff.1 he) n (h n (by omega))
      simp at this
    omega
theorem nodup_sub {α : Type} [DecidableEq α] : ∀ {l m : List α}, l.Nodup → (∀ x ∈ l, x ∈ m) → l.length ≤ m.length
  | [], _, _, _ => by simp
  | x :: l, m, hn, hs => by
    obtain ⟨h1, h2⟩ := List.nodup_cons.1 hn
    have hx := hs x List.mem_cons_self
    have := nodup_sub (l := l) (m := m.erase x) h2 fun y hy => by
      have hy' := hs y (List.mem_cons_of_mem _ hy)
      rw [List.mem_erase_of_ne]
      · exact hy'
      · rintro rfl
        exact h1 hy
    rw [List.length_erase_of_mem hx] at this
    have : 0 < m.length := List.length_pos_of_mem hx
    simp only [List.length_cons]
    omega
/-- A function from the numbers below n onto those below m: m ≤ n; if m = n, it tells all apart. -/
theorem onto_le {n m : Nat} {f : Nat → Nat} (h : ∀ k, k < m → ∃ i, i < n ∧ f i = k) : m ≤ n := by
  have := covers (n := m) (l := (List.range n).map f) fun k hk => by
    obtain ⟨i, hi, rfl⟩ := h k hk
    exact List.mem_map_of_mem (List.mem_range.2 hi)
  simpa using this
theorem onto_inj {n : Nat} {f : Nat → Nat} (h : ∀ k, k < n → ∃ i, i < n ∧ f i = k) {i j : Nat} (hi : i < n) (hj : j < n) (hij : f i = f j) : i = j := by
  refine Decidable.byContradiction fun hne => ?_
  have h1 := covers (n := n) (l := ((List.range n).erase j).map f) fun k hk => by
    obtain ⟨i', hi', rfl⟩ := h k hk
    by_cases he : i' = j
    · subst he
      rw [← hij]
      exact List.mem_map_of_mem ((List.mem_erase_of_ne hne).2 (List.mem_range.2 hi))
    · exact List.mem_map_of_mem ((List.mem_erase_of_ne he).2 (List.mem_range.2 hi'))
  rw [List.length_map, List.length_erase_of_mem (List.mem_range.2 hj), List.length_range] at h1
  omega

/-! ### Tables -/
def nx (next : List (List Nat)) (i c : Nat) : Nat := (next.getD i []).getD c 0
def runT (next : List (List Nat)) (i : Nat) (u : List Nat) : Nat := u.foldl (nx next) i
structure IsTab {S : Type} (st : List S) (start : S) (step : S → Nat → S) (acc : S → Bool) (next : List (List Nat)) (ac : List Bool) : Prop where
  first : st[0]? = some start
  nlen : next.length = st.length
  alen : ac.length = st.length
  row : ∀ i s, st[i]? = some s → (next.getD i []).length = 11
  step : ∀ i s, st[i]? = some s → ∀ c, c < 11 → st[nx next i c]? = some (step s c)
  acc : ∀ i s, st[i]? = some s → ac.getD i false = acc s
theorem IsTab.pos {S : Type} {st : List S} {start : S} {step : S → Nat → S} {acc : S → Bool} {next : List (List Nat)} {ac : List Bool} (h : IsTab st start step acc next ac) : 0 < st.length := (List.getElem?_eq_some_iff.1 h.first).1
theorem IsTab.lt {S : Type} {st : List S} {start : S} {step : S → Nat → S} {acc : S → Bool} {next : List (List Nat)} {ac : List Bool} (h : IsTab st start step acc next ac) {i c : Nat} (hi : i < st.length) (hc : c < 11) : nx next i c < st.length :=
  (List.getElem?_eq_some_iff.1 (h.step i _ (List.getElem?_eq_getElem hi) c hc)).1
theorem IsTab.run {S : Type} {st : List S} {start : S} {step : S → Nat → S} {acc : S → Bool} {next : List (List Nat)} {ac : List Bool} (h : IsTab st start step acc next ac) {u : List Nat} (hu : ∀ c ∈ u, c < 11) {i : Nat} {s : S} (hi : st[i]? = some s) : st[runT next i u]? = some (u.foldl step s) := by
  induction u generalizing i s with
  | nil => exact hi
  | cons c u ih => exact ih (fun c hc => hu c (List.mem_cons_of_mem _ hc)) (h.step i s hi c (hu c List.mem_cons_self))
theorem IsTab.runs {S : Type} {st : List S} {start : S} {step : S → Nat → S} {acc : S → Bool} {next : List (List Nat)} {ac : List Bool} (h : IsTab st start step acc next ac) {u : List Nat} (hu : ∀ c ∈ u, c < 11) : ac.getD (runT next 0 u) false = acc (u.foldl step start) :=
  h.acc _ _ (h.run hu h.first)

/-! ### Classes -/
/-- cl gives the n states classes below k, each of which occurs. -/
structure Cls (n k : Nat) (cl : List Nat) : Prop where
  len : cl.length = n
  lt : ∀ i, i < n → cl.getD i 0 < k
  onto : ∀ j, j < k → ∃ i, i < n ∧ cl.getD i 0 = j
def keyL (next : List (List Nat)) (cl : List Nat) (i : Nat) : List Nat := cl.getD i 0 :: (next.getD i []).map fun j => cl.getD j 0
/-- One round: fin are the classes of equal keys. -/
structure Finer (n k : Nat) (next : List (List Nat)) (cl fin : List Nat) : Prop where
  cls : Cls n k fin
  iff : ∀ i j, i < n → j < n → (fin.getD i 0 = fin.getD j 0 ↔ keyL next cl i = keyL next cl j)
/-- The class tells whether the state accepts. -/
def AccOK (n : Nat) (ac : List Bool) (cl : List Nat) : Prop := ∀ i j, i < n → j < n → cl.getD i 0 = cl.getD j 0 → ac.getD i false = ac.getD j false
theorem Finer.acc {n k : Nat} {next : List (List Nat)} {cl fin : List Nat} {ac : List Bool} (h : Finer n k next cl fin) (ha : AccOK n ac cl) : AccOK n ac fin := fun i j hi hj he => by
  have := (h.iff i j hi hj).1 he
  exact ha i j hi hj (List.cons.inj this).1
theorem Finer.grows {n k k' : Nat} {next : List (List Nat)} {cl fin : List Nat} (h : Finer n k' next cl fin) (hc : Cls n k cl) : ∃ f : Nat → Nat, (∀ j, j < k → ∃ i, i < k' ∧ f i = j) ∧ ∀ i, i < n → f (fin.getD i 0) = cl.getD i 0 := by
  refine Classical.byContradiction fun _ => ?_
  have hx : ∀ j, ∃ x, ∀ i, i < n → fin.getD i 0 = j → cl.getD i 0 = x := fun j => by
    by_cases hj : ∃ i, i < n ∧ fin.getD i 0 = j
    · obtain ⟨i0, hi0, rfl⟩ := hj
      exact ⟨cl.getD i0 0, fun i hi he => (List.cons.inj ((h.iff i i0 hi hi0).1 he)).1⟩
    · exact ⟨0, fun i hi he => absurd ⟨i, hi, he⟩ hj⟩
  have hf : ∀ i, i < n → (Classical.choose (hx (fin.getD i 0))) = cl.getD i 0 := fun i hi => (Classical.choose_spec (hx (fin.getD i 0)) i hi rfl).symm
  rename_i hno
  exact hno ⟨fun j => Classical.choose (hx j), fun j hj => by
    obtain ⟨i, hi, he⟩ := hc.onto j hj
    exact ⟨fin.getD i 0, h.cls.lt i hi, (hf i hi).trans he⟩, hf⟩
theorem Finer.le {n k k' : Nat} {next : List (List Nat)} {cl fin : List Nat} (h : Finer n k' next cl fin) (hc : Cls n k cl) : k ≤ k' := by
  obtain ⟨f, h1, _⟩ := h.grows hc
  exact onto_le h1
theorem Cls.le {n k : Nat} {cl : List Nat} (h : Cls n k cl) : k ≤ n := onto_le h.onto
/-- If the number of classes stays, the new classes are stable. -/
theorem Finer.stable {n k : Nat} {next : List (List Nat)} {cl fin : List Nat} (h : Finer n k next cl fin) (hc : Cls n k cl) (hr : ∀ i, i < n → (next.getD i []).length = 11) (hl : ∀ i c, i < n → c < 11 → nx next i c < n) :
    ∀ i j, i < n → j < n → fin.getD i 0 = fin.getD j 0 → ∀ c, c < 11 → fin.getD (nx next i c) 0 = fin.getD (nx next j c) 0 := by
  obtain ⟨f, h1, h2⟩ := h.grows hc
  intro i j hi hj he c hcc
  have hk := (h.iff i j hi hj).1 he
  have hk2 := (List.cons.inj hk).2
  have a1 : ∀ i, i < n → ((next.getD i []).map fun j => cl.getD j 0)[c]? = some (cl.getD (nx next i c) 0) := fun i hi => by
    rw [List.getElem?_map]
    have := hr i hi
    unfold nx
    generalize next.getD i [] = row at this
    have hc' : c < row.length := by omega
    simp [List.getD_eq_getElem?_getD, hc']
  have a2 : cl.getD (nx next i c) 0 = cl.getD (nx next j c) 0 := by
    have e1 := a1 i hi
    rw [hk2, a1 j hj] at e1
    exact (Option.some.inj e1).symm
  refine onto_inj h1 (h.cls.lt _ (hl i c hi hcc)) (h.cls.lt _ (hl j c hj hcc)) ?_
  rw [h2 _ (hl i c hi hcc), h2 _ (hl j c hj hcc), a2]
/-- The table of the classes accepts what the first table accepts. -/
theorem merged_run {S : Type} {st : List S} {start : S} {step : S → Nat → S} {acc : S → Bool} {next : List (List Nat)} {ac : List Bool} (h : IsTab st start step acc next ac)
    {k : Nat} {cl fi : List Nat} (hc : Cls st.length k cl) (ha : AccOK st.length ac cl) (hs : ∀ i j, i < st.length → j < st.length → cl.getD i 0 = cl.getD j 0 → ∀ c, c < 11 → cl.getD (nx next i c) 0 = cl.getD (nx next j c) 0)
    (hf : ∀ j, j < k → fi.getD j 0 < st.length ∧ cl.getD (fi.getD j 0) 0 = j)
    {st2 : List Nat} {next2 : List (List Nat)} {ac2 : List Bool} (h2 : IsTab st2 (cl.getD 0 0) (fun x c => cl.getD (nx next (fi.getD x 0) c) 0) (fun x => ac.getD (fi.getD x 0) false) next2 ac2)
    {u : List Nat} (hu : ∀ c ∈ u, c < 11) : ac2.getD (runT next2 0 u) false = acc (u.foldl step start) := by
  rw [h2.runs hu, ← h.runs hu]
  have hp := h.pos
  have key : ∀ (u : List Nat), (∀ c ∈ u, c < 11) → ∀ i, i < st.length → u.foldl (fun x c => cl.getD (nx next (fi.getD x 0) c) 0) (cl.getD i 0) = cl.getD (runT next i u) 0 ∧ runT next i u < st.length := by
    intro u
    induction u with
    | nil => intro _ i hi; exact ⟨rfl, hi⟩
    | cons c u ih =>
      intro hu i hi
      have hcc := hu c List.mem_cons_self
      have e : cl.getD (nx next (fi.getD (cl.getD i 0) 0) c) 0 = cl.getD (nx next i c) 0 := by
        obtain ⟨f1, f2⟩ := hf _ (hc.lt i hi)
        exact hs _ _ f1 hi f2 c hcc
      simp only [List.foldl_cons, e]
      exact ih (fun c hc => hu c (List.mem_cons_of_mem _ hc)) _ (h.lt hi hcc)
  obtain ⟨k1, k2⟩ := key u hu 0 hp
  rw [k1]
  obtain ⟨f1, f2⟩ := hf _ (hc.lt _ k2)
  exact ha _ _ f1 k2 f2

/-! ### The table of a condition -/
abbrev RS := Nat × List Tr
def updL : List Rel → List Tr → Bool → Nat → List Tr
  | r :: l, t :: ts, b, d => trRead r t b d :: updL l ts b d
  | _, ts, _, _ => ts
def rdStep (l : List Rel) (s : RS) (c : Nat) : RS :=
  if c = 10 ∧ s.1 = 1 then (2, s.2)
  else if c = 10 ∨ s.1 = 4 then (4, List.replicate 6 (0, 0))
  else if s.1 = 0 ∨ s.1 = 1 then (1, updL l s.2 false c)
  else (3, updL l s.2 true c)
def rd0 : RS := (0, List.replicate 6 (0, 0))
def allAt : Nat → Nat → (Nat → Bool) → Bool
  | 0, _, _ => true
  | n + 1, a, f => f a && allAt n (a + 1) f
def holdsAt : Cnd → Nat → (Nat → Bool) → Bool
  | [], _, _ => false
  | l :: c, a, f => allAt l.length a f || holdsAt c (a + l.length) f
theorem allAt_eq {l : List Rel} {a : Nat} {f : Nat → Bool} {g : Rel → Bool} (h : ∀ (i : Nat) (r : Rel), l[i]? = some r → f (a + i) = g r) : allAt l.length a f = l.all g := by
  induction l generalizing a with
  | nil => rfl
  | cons r l ih =>
    have h0 := h 0 r rfl
    rw [Nat.add_zero] at h0
    simp only [List.length_cons, allAt, List.all_cons, h0]
    rw [ih fun i r' hr => by
      have := h (i + 1) r' (by simpa using hr)
      rw [show a + 1 + i = a + (i + 1) by omega]
      exact this]
theorem holdsAt_eq {c : Cnd} {a : Nat} {f : Nat → Bool} {g : Rel → Bool} (h : ∀ (i : Nat) (r : Rel), c.flatten[i]? = some r → f (a + i) = g r) : holdsAt c a f = c.any fun l => l.all g := by
  induction c generalizing a with
  | nil => rfl
  | cons l c ih =>
    simp only [holdsAt, List.any_cons]
    rw [allAt_eq (g := g) fun i r hr => h i r (by rw [List.flatten_cons, List.getElem?_append_left (List.getElem?_eq_some_iff.1 hr).1]; exact hr)]
    rw [ih fun i r hr => by
      have := h (l.length + i) r (by rw [List.flatten_cons, List.getElem?_append_right (by omega)]; simpa using hr)
      rw [← Nat.add_assoc] at this
      exact this]
def accR (c : Cnd) (s : RS) : Bool := (decide (s.1 = 1) || decide (s.1 = 3)) && holdsAt c 0 fun i => trHolds (c.flatten.getD i ⟨0, 0, false, []⟩) (s.2.getD i (0, 0))
def syms (x : Num) : List Nat := if x.fr = [] then x.wh else x.wh ++ 10 :: x.fr
theorem syms_lt {x : Num} (h : x.OK) : ∀ c ∈ syms x, c < 11 := by
  intro c hc
  unfold syms at hc
  split at hc
  · have := h.1 c hc
    omega
  · rcases List.mem_append.1 hc with hc | hc
    · have := h.1 c hc
      omega
    · rcases List.mem_cons.1 hc with rfl | hc
      · omega
      · have := h.2.1 c hc
        omega
theorem updL_get (l : List Rel) (ts : List Tr) (b : Bool) (d i : Nat) (r : Rel) (t : Tr) (hr : l[i]? = some r) (ht : ts[i]? = some t) : (updL l ts b d)[i]? = some (trRead r t b d) := by
  induction l generalizing ts i with
  | nil => simp at hr
  | cons r' l ih =>
    cases ts with
    | nil => simp at ht
    | cons t' ts =>
      cases i with
      | zero =>
        simp at hr ht
        subst hr ht
        rfl
      | succ i =>
        simp only [updL, List.getElem?_cons_succ] at *
        exact ih _ _ hr ht
/-- Reading digits. -/
theorem rd_digits (l : List Rel) (b : Bool) (ph : Nat) (hph : ph = if b then 3 else 1) (u : List Nat) (hu : Digs u) (p0 : Nat) (hp0 : if b then (p0 = 2 ∨ p0 = 3) else (p0 = 0 ∨ p0 = 1)) (ts : List Tr) (hne : u ≠ []) :
    ∃ ts', u.foldl (rdStep l) (p0, ts) = (ph, ts') ∧ ∀ (i : Nat) (r : Rel) (t : Tr), l[i]? = some r → ts[i]? = some t → ts'[i]? = some (readL r b t u) := by
  induction u generalizing p0 ts with
  | nil => exact absurd rfl hne
  | cons d u ih =>
    have hd := hu d List.mem_cons_self
    have hst : rdStep l (p0, ts) d = (ph, updL l ts b d) := by
      unfold rdStep
      subst hph
      cases b with
      | false =>
        simp only [Bool.false_eq_true, if_false] at hp0 ⊢
        rw [if_neg (by omega), if_neg (by omega), if_pos hp0]
      | true =>
        simp only [if_true] at hp0 ⊢
        rw [if_neg (by omega), if_neg (by omega), if_neg (by omega)]
    rw [List.foldl_cons, hst]
    by_cases hu0 : u = []
    · subst hu0
      refine ⟨_, rfl, fun i r t hr ht => ?_⟩
      exact updL_get _ _ _ _ _ _ _ hr ht
    · obtain ⟨ts', h1, h2⟩ := ih (fun d hd => hu d (List.mem_cons_of_mem _ hd)) ph (by subst hph; cases b <;> simp) (updL l ts b d) hu0
      exact ⟨ts', h1, fun i r t hr ht => h2 i r _ hr (updL_get _ _ _ _ _ _ _ hr ht)⟩
theorem condB_rel {c : Cnd} (h : condB c = true) {r : Rel} (hr : r ∈ c.flatten) : relB r = true := by
  simp only [condB, Bool.and_eq_true, List.all_eq_true] at h
  obtain ⟨l, hl, hr'⟩ := List.mem_flatten.1 hr
  exact (h.1.2 l hl).2 r hr'
theorem total_flatten (c : Cnd) : total c = c.flatten.length := by
  unfold total
  rw [List.length_flatten]
theorem condB_total {c : Cnd} (h : condB c = true) : c.flatten.length ≤ 6 := by
  rw [← total_flatten]
  simp only [condB, Bool.and_eq_true, decide_eq_true_eq] at h
  exact h.2
theorem holds_table {c : Cnd} (h : condB c = true) {x : Num} {ts : List Tr} (hts : ∀ (i : Nat) (r : Rel), c.flatten[i]? = some r → ts[i]? = some (readL r true (readL r false (0, 0) x.wh) x.fr)) :
    (holdsAt c 0 fun i => trHolds (c.flatten.getD i ⟨0, 0, false, []⟩) (ts.getD i (0, 0))) = condH c x := by
  refine holdsAt_eq fun i r hr => ?_
  rw [Nat.zero_add]
  have h1 := hts i r hr
  simp only [List.getD, hr, h1, Option.getD_some]
  exact tr_holds (condB_rel h (List.mem_of_getElem? hr)) x
theorem acc_table {c : Cnd} (h : condB c = true) {x : Num} (hx : x.OK) : accR c ((syms x).foldl (rdStep c.flatten) rd0) = condH c x := by
  have hw : x.wh ≠ [] := by
    intro h0
    have := hx.2.2.1
    rw [h0] at this
    simp at this
  have h6 := condB_total h
  obtain ⟨t1, e1, g1⟩ := rd_digits c.flatten false 1 rfl x.wh hx.1 0 (by simp) (List.replicate 6 (0, 0)) hw
  have g1' : ∀ (i : Nat) (r : Rel), c.flatten[i]? = some r → t1[i]? = some (readL r false (0, 0) x.wh) := fun i r hr => by
    have hi := (List.getElem?_eq_some_iff.1 hr).1
    exact g1 i r _ hr (by rw [List.getElem?_replicate, if_pos (by omega)])
  unfold syms
  by_cases hf : x.fr = []
  · rw [if_pos hf]
    show accR c (x.wh.foldl (rdStep c.flatten) (0, List.replicate 6 (0, 0))) = _
    rw [e1]
    unfold accR
    simp only [decide_true, Bool.true_or, Bool.true_and]
    exact holds_table h fun i r hr => by
      rw [hf]
      exact g1' i r hr
  · rw [if_neg hf, List.foldl_append]
    show accR c ((10 :: x.fr).foldl (rdStep c.flatten) (x.wh.foldl (rdStep c.flatten) (0, List.replicate 6 (0, 0)))) = _
    rw [e1, List.foldl_cons]
    have h2 : rdStep c.flatten (1, t1) 10 = (2, t1) := rfl
    rw [h2]
    obtain ⟨t3, e3, g3⟩ := rd_digits c.flatten true 3 rfl x.fr hx.2.1 2 (by simp) t1 hf
    rw [e3]
    unfold accR
    simp only [decide_true, Bool.or_true, Bool.true_and]
    exact holds_table h fun i r hr => g3 i r _ hr (g1' i r hr)
end Go.Proofs.YtbkcmgjmhglghaaGreatDoor
