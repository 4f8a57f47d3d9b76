/-
  What can be read of a number by the relations of a condition: finitely many states, bounded by the weight.
-/
import Derived.Test.YtbkcmgjmhglghaaGreatDoorWp1
namespace Go.Proofs.YtbkcmgjmhglghaaGreatDoor

def trsz (r : Rel) : Nat := if r.md = 0 then (great r + 2).toNat else r.md.toNat
def wt (r : Rel) : Nat := if r.op = 6 then trsz r * trsz r else trsz r
def wfold (l : List Rel) (n : Nat) : Nat := l.foldl (fun n r => min 1000000 (n * wt r)) n
theorem trsz_ge {r : Rel} (h : relB r = true) : 2 ≤ trsz r ∧ trsz r ≤ 102 := by
  have h1 := great_nonneg r
  have h2 := great_le h
  unfold trsz
  split
  · omega
  · rename_i hm
    rcases relB_md h with h0 | h0
    · exact absurd h0 hm
    · have := modsL_le h0
      omega
theorem wt_ge {r : Rel} (h : relB r = true) : trsz r ≤ wt r ∧ wt r ≤ 10404 := by
  have := trsz_ge h
  unfold wt
  split
  · exact ⟨Nat.le_mul_of_pos_left _ (by omega), Nat.le_trans (Nat.mul_le_mul this.2 this.2) (by omega)⟩
  · omega
theorem red_lt {r : Rel} (h : relB r = true) {n : Int} (hn : 0 ≤ n) : 0 ≤ red r n ∧ red r n < trsz r := by
  have h1 := great_nonneg r
  refine ⟨(red_range h hn).1, ?_⟩
  unfold red trsz
  split
  · omega
  · rename_i hm
    rcases relB_md h with h0 | h0
    · exact absurd h0 hm
    · have := modsL_le h0
      have := Int.emod_lt_of_pos n (show 0 < r.md by omega)
      omega
def prodW : List Rel → Nat
  | [] => 1
  | r :: l => wt r * prodW l
theorem prodW_pos {l : List Rel} (h : ∀ r ∈ l, relB r = true) : 1 ≤ prodW l := by
  induction l with
  | nil => simp [prodW]
  | cons r l ih =>
    have h1 := wt_ge (h r List.mem_cons_self)
    have h2 := trsz_ge (h r List.mem_cons_self)
    have h3 := ih fun r hr => h r (List.mem_cons_of_mem _ hr)
    exact Nat.le_trans (show 1 ≤ 1 * 1 from by omega) (Nat.mul_le_mul (by omega) h3)
theorem wfold_prod {l : List Rel} (h : ∀ r ∈ l, relB r = true) {n : Nat} (hn : 1 ≤ n) (hw : wfold l n ≤ 200) : n * prodW l ≤ 200 := by
  induction l generalizing n with
  | nil => simpa [wfold, prodW] using hw
  | cons r l ih =>
    have h1 := wt_ge (h r List.mem_cons_self)
    have h2 := trsz_ge (h r List.mem_cons_self)
    have hl := fun r hr => h r (List.mem_cons_of_mem _ hr)
    have hm : 1 ≤ n * wt r := Nat.le_trans (show 1 ≤ 1 * 1 from by omega) (Nat.mul_le_mul hn (by omega))
    have hstep : wfold (r :: l) n = wfold l (min 1000000 (n * wt r)) := rfl
    rw [hstep] at hw
    have := ih hl (n := min 1000000 (n * wt r)) (by omega) hw
    have hp := prodW_pos hl
    unfold prodW
    rw [← Nat.mul_assoc]
    by_cases hc : n * wt r ≤ 1000000
    · rwa [Nat.min_eq_right hc] at this
    · rw [Nat.min_eq_left (by omega)] at this
      have : 1000000 * 1 ≤ 1000000 * prodW l := Nat.mul_le_mul_left _ hp
      omega

def trPairs (s : Nat) : List Tr := (List.range s).flatMap fun (a : Nat) => (List.range s).map fun (b : Nat) => ((a : Int), (b : Int))
def allTs : List Rel → Nat → List (List Tr)
  | r :: l, k + 1 => (trPairs (trsz r)).flatMap fun t => (allTs l k).map (t :: ·)
  | _, k => [List.replicate k (0, 0)]
def allRS (l : List Rel) : List RS := (List.range 5).flatMap fun p => (allTs l 6).map fun ts => (p, ts)
theorem length_flatMap_const {α β : Type} (l : List α) (f : α → List β) (k : Nat) (h : ∀ x ∈ l, (f x).length = k) : (l.flatMap f).length = l.length * k := by
  induction l with
  | nil => simp
  | cons x l ih =>
    rw [List.flatMap_cons, List.length_append, h x List.mem_cons_self, ih fun x hx => h x (List.mem_cons_of_mem _ hx), List.length_cons, Nat.add_mul, Nat.one_mul, Nat.add_comm]
theorem length_pairs (s : Nat) : (trPairs s).length = s * s := by
  unfold trPairs
  rw [length_flatMap_const _ _ s (by simp), List.length_range]
theorem mem_pairs {s : Nat} {t : Tr} : t ∈ trPairs s ↔ 0 ≤ t.1 ∧ t.1 < s ∧ 0 ≤ t.2 ∧ t.2 < s := by
  obtain ⟨a, b⟩ := t
  unfold trPairs
  rw [List.mem_flatMap]
  constructor
  · rintro ⟨x, hx, h⟩
    obtain ⟨y, hy, he⟩ := List.mem_map.1 h
    have := List.mem_range.1 hx
    have := List.mem_range.1 hy
    obtain ⟨rfl, rfl⟩ := Prod.mk.inj he
    simp
    omega
  · rintro ⟨h1, h2, h3, h4⟩
    simp only at h1 h2 h3 h4
    exact ⟨a.toNat, List.mem_range.2 (by omega), List.mem_map.2 ⟨b.toNat, List.mem_range.2 (by omega), by rw [Int.toNat_of_nonneg h1, Int.toNat_of_nonneg h3]⟩⟩
theorem length_allTs {l : List Rel} (h : ∀ r ∈ l, relB r = true) (k : Nat) : (allTs l k).length ≤ prodW l * prodW l := by
  induction l generalizing k with
  | nil => simp [allTs, prodW]
  | cons r l ih =>
    have hl := fun r hr => h r (List.mem_cons_of_mem _ hr)
    cases k with
    | zero =>
      have := prodW_pos h
      have : 1 * 1 ≤ prodW (r :: l) * prodW (r :: l) := Nat.mul_le_mul this this
      simpa [allTs] using this
    | succ k =>
      unfold allTs
      rw [length_flatMap_const _ _ (allTs l k).length (by simp), length_pairs]
      have h1 := (wt_ge (h r List.mem_cons_self)).1
      have h2 := ih hl k
      have : trsz r * trsz r * (allTs l k).length ≤ wt r * wt r * (prodW l * prodW l) := Nat.mul_le_mul (Nat.mul_le_mul h1 h1) h2
      unfold prodW
      rw [show wt r * prodW l * (wt r * prodW l) = wt r * wt r * (prodW l * prodW l) from by ac_rfl]
      exact this
theorem length_allRS {l : List Rel} (h : ∀ r ∈ l, relB r = true) (hw : wfold l 1 ≤ 200) : (allRS l).length ≤ 200000 := by
  unfold allRS
  rw [length_flatMap_const _ _ (allTs l 6).length (by simp), List.length_range]
  have h1 := wfold_prod h (Nat.le_refl 1) hw
  rw [Nat.one_mul] at h1
  have h2 := length_allTs h 6
  have h3 : prodW l * prodW l ≤ 200 * 200 := Nat.mul_le_mul h1 h1
  omega
theorem zero_allTs {l : List Rel} (h : ∀ r ∈ l, relB r = true) (k : Nat) : List.replicate k (0, 0) ∈ allTs l k := by
  induction l generalizing k with
  | nil => simp [allTs]
  | cons r l ih =>
    cases k with
    | zero => simp [allTs]
    | succ k =>
      unfold allTs
      have := trsz_ge (h r List.mem_cons_self)
      exact List.mem_flatMap.2 ⟨(0, 0), mem_pairs.2 (by simp; omega), List.mem_map.2 ⟨_, ih (fun r hr => h r (List.mem_cons_of_mem _ hr)) k, rfl⟩⟩
theorem trRead_mem {r : Rel} (h : relB r = true) {t : Tr} (ht : t ∈ trPairs (trsz r)) (b : Bool) (d : Nat) : trRead r t b d ∈ trPairs (trsz r) := by
  obtain ⟨h1, h2, h3, h4⟩ := mem_pairs.1 ht
  have ht2 := trsz_ge h
  rw [mem_pairs]
  have e1 := red_lt h (n := 10 * t.1 + d) (by omega)
  have e2 := red_lt h (n := 10 * t.2 + d) (by omega)
  have e3 := red_lt h (n := t.2 + 1) (by omega)
  unfold trRead
  repeat' split
  all_goals first | omega | (dsimp only; omega)
theorem updL_mem {l : List Rel} (h : ∀ r ∈ l, relB r = true) (k : Nat) {ts : List Tr} (ht : ts ∈ allTs l k) (b : Bool) (d : Nat) : updL l ts b d ∈ allTs l k := by
  induction l generalizing k ts with
  | nil => simpa [updL] using ht
  | cons r l ih =>
    cases k with
    | zero =>
      simp [allTs] at ht
      subst ht
      simp [allTs, updL]
    | succ k =>
      unfold allTs at ht ⊢
      obtain ⟨t, h1, h2⟩ := List.mem_flatMap.1 ht
      obtain ⟨ts', h3, rfl⟩ := List.mem_map.1 h2
      exact List.mem_flatMap.2 ⟨_, trRead_mem (h r List.mem_cons_self) h1 b d, List.mem_map.2 ⟨_, ih (fun r hr => h r (List.mem_cons_of_mem _ hr)) k h3, rfl⟩⟩
theorem mem_allRS {l : List Rel} {s : RS} : s ∈ allRS l ↔ s.1 < 5 ∧ s.2 ∈ allTs l 6 := by
  unfold allRS
  rw [List.mem_flatMap]
  constructor
  · rintro ⟨p, hp, h⟩
    obtain ⟨ts, h1, rfl⟩ := List.mem_map.1 h
    exact ⟨List.mem_range.1 hp, h1⟩
  · rintro ⟨h1, h2⟩
    exact ⟨s.1, List.mem_range.2 h1, List.mem_map.2 ⟨s.2, h2, rfl⟩⟩
theorem rd0_mem {l : List Rel} (h : ∀ r ∈ l, relB r = true) : rd0 ∈ allRS l := mem_allRS.2 ⟨by simp [rd0], zero_allTs h 6⟩
theorem rdStep_mem {l : List Rel} (h : ∀ r ∈ l, relB r = true) {s : RS} (hs : s ∈ allRS l) (c : Nat) : rdStep l s c ∈ allRS l := by
  obtain ⟨h1, h2⟩ := mem_allRS.1 hs
  rw [mem_allRS]
  unfold rdStep
  repeat' split
  · exact ⟨by simp, h2⟩
  · exact ⟨by simp, zero_allTs h 6⟩
  · exact ⟨by simp, updL_mem h 6 h2 _ _⟩
  · exact ⟨by simp, updL_mem h 6 h2 _ _⟩
theorem allTs_len {l : List Rel} {k : Nat} {ts : List Tr} (h : ts ∈ allTs l k) : ts.length = k := by
  induction l generalizing k ts with
  | nil => simp [allTs] at h; subst h; simp
  | cons r l ih =>
    cases k with
    | zero => simp [allTs] at h; subst h; rfl
    | succ k =>
      unfold allTs at h
      obtain ⟨t, _, h2⟩ := List.mem_flatMap.1 h
      obtain ⟨ts', h3, rfl⟩ := List.mem_map.1 h2
      rw [List.length_cons, ih h3]
theorem allTs_get {l : List Rel} (hl : ∀ r ∈ l, relB r = true) {k : Nat} {ts : List Tr} (h : ts ∈ allTs l k) {i : Nat} {t : Tr} (ht : ts[i]? = some t) : 0 ≤ t.1 ∧ t.1 ≤ 101 ∧ 0 ≤ t.2 ∧ t.2 ≤ 101 := by
  induction l generalizing k ts i with
  | nil =>
    simp [allTs] at h
    subst h
    obtain ⟨_, rfl⟩ := List.getElem?_eq_some_iff.1 ht
    simp
  | cons r l ih =>
    cases k with
    | zero => simp [allTs] at h; subst h; simp at ht
    | succ k =>
      unfold allTs at h
      obtain ⟨t', h1, h2⟩ := List.mem_flatMap.1 h
      obtain ⟨ts', h3, rfl⟩ := List.mem_map.1 h2
      cases i with
      | zero =>
        simp at ht
        subst ht
        have := mem_pairs.1 h1
        have := trsz_ge (hl r List.mem_cons_self)
        omega
      | succ i => exact ih (fun r hr => hl r (List.mem_cons_of_mem _ hr)) h3 (by simpa using ht)
end Go.Proofs.YtbkcmgjmhglghaaGreatDoor
