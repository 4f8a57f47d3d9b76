/-
  Plain laws of encoding (no program in sight): the encoding of a number, what is decoded from it, and strings that are the encodings of their elements.
-/
import Derived.Test.YtgefbagojghmeaaU8c
namespace Go.Proofs.Ytgefbagojghmeaa
namespace U8
open Go.Lib

/-- A code point. -/
def isPt (n : Nat) : Prop := n ≤ 1114111 ∧ (n < 55296 ∨ 57343 < n)
/-- The encoding of a number, as bytes. -/
def oneN (n : Nat) : List UInt8 :=
  if n < 128 then [UInt8.ofNat n] else if n < 2048 then [UInt8.ofNat (192 + n / 64), UInt8.ofNat (128 + n % 64)]
  else if n < 65536 then [UInt8.ofNat (224 + n / 4096), UInt8.ofNat (128 + n / 64 % 64), UInt8.ofNat (128 + n % 64)]
  else [UInt8.ofNat (240 + n / 262144), UInt8.ofNat (128 + n / 4096 % 64), UInt8.ofNat (128 + n / 64 % 64), UInt8.ofNat (128 + n % 64)]
theorem oneN_len (n : Nat) : 1 ≤ (oneN n).length ∧ (oneN n).length ≤ 4 := by
  unfold oneN; repeat' split
  all_goals simp
theorem byte_lt {n : Nat} (h : n < 256) : (UInt8.ofNat n).toNat = n := by rw [UInt8.toNat_ofNat']; omega

theorem dec_one (n : Nat) (hp : isPt n) (t : List UInt8) : decodeL (oneN n ++ t) = (n, (oneN n).length) := by
  obtain ⟨h1, h2⟩ := hp
  rw [decodeL_N]
  by_cases a : n < 128
  · have e : oneN n = [UInt8.ofNat n] := by unfold oneN; rw [if_pos a]
    rw [e]
    simp only [List.cons_append, List.nil_append, List.getD_cons_zero, List.length_cons, List.length_nil]
    rw [byte_lt (by omega)]
    unfold decodeN
    rw [if_pos a]
  by_cases b : n < 2048
  · have e : oneN n = [UInt8.ofNat (192 + n / 64), UInt8.ofNat (128 + n % 64)] := by unfold oneN; rw [if_neg a, if_pos b]
    rw [e]
    simp only [List.cons_append, List.nil_append, List.getD_cons_zero, List.getD_cons_succ, List.length_cons, List.length_nil]
    rw [byte_lt (n := 192 + n / 64) (by omega), byte_lt (n := 128 + n % 64) (by omega)]
    unfold decodeN
    rw [if_neg (by omega), if_pos (by omega), if_pos (by omega)]
    apply Prod.ext <;> simp only <;> omega
  by_cases c : n < 65536
  · have e : oneN n = [UInt8.ofNat (224 + n / 4096), UInt8.ofNat (128 + n / 64 % 64), UInt8.ofNat (128 + n % 64)] := by unfold oneN; rw [if_neg a, if_neg b, if_pos c]
    rw [e]
    simp only [List.cons_append, List.nil_append, List.getD_cons_zero, List.getD_cons_succ, List.length_cons, List.length_nil]
    rw [byte_lt (n := 224 + n / 4096) (by omega), byte_lt (n := 128 + n / 64 % 64) (by omega), byte_lt (n := 128 + n % 64) (by omega)]
    unfold decodeN
    rw [if_neg (by omega), if_neg (by omega), if_pos (by omega), if_pos (by omega)]
    apply Prod.ext <;> simp only <;> omega
  · have e : oneN n = [UInt8.ofNat (240 + n / 262144), UInt8.ofNat (128 + n / 4096 % 64), UInt8.ofNat (128 + n / 64 % 64), UInt8.ofNat (128 + n % 64)] := by unfold oneN; rw [if_neg a, if_neg b, if_neg c]
    rw [e]
    simp only [List.cons_append, List.nil_append, List.getD_cons_zero, List.getD_cons_succ, List.length_cons, List.length_nil]
    rw [byte_lt (n := 240 + n / 262144) (by omega), byte_lt (n := 128 + n / 4096 % 64) (by omega), byte_lt (n := 128 + n / 64 % 64) (by omega), byte_lt (n := 128 + n % 64) (by omega)]
    unfold decodeN
    rw [if_neg (by omega), if_neg (by omega), if_neg (by omega), if_pos (by omega), if_pos (by omega)]
    apply Prod.ext <;> simp only <;> omega

theorem eq_byte {b : UInt8} {n : Nat} (h : n = b.toNat) : UInt8.ofNat n = b := by subst h; simp
theorem take2 (l : List UInt8) (h : 2 ≤ l.length) : l.take 2 = [l.getD 0 0, l.getD 1 0] := by
  match l, h with
  | _ :: _ :: _, _ => rfl
theorem take3 (l : List UInt8) (h : 3 ≤ l.length) : l.take 3 = [l.getD 0 0, l.getD 1 0, l.getD 2 0] := by
  match l, h with
  | _ :: _ :: _ :: _, _ => rfl
theorem take4 (l : List UInt8) (h : 4 ≤ l.length) : l.take 4 = [l.getD 0 0, l.getD 1 0, l.getD 2 0, l.getD 3 0] := by
  match l, h with
  | _ :: _ :: _ :: _ :: _, _ => rfl
theorem take1 (l : List UInt8) (h : 1 ≤ l.length) : l.take 1 = [l.getD 0 0] := by
  match l, h with
  | _ :: _, _ => rfl

set_option maxHeartbeats 2000000 in
/-- An element: a replacement of one byte, or a code point whose encoding is what is passed over. -/
theorem dec_shape (l : List UInt8) (hne : l ≠ []) : decodeL l = (65533, 1) ∨ (isPt (decodeL l).1 ∧ oneN (decodeL l).1 = l.take (decodeL l).2 ∧ ((decodeL l).1 = 65533 → (decodeL l).2 = 3)) := by
  have hl : 0 < l.length := List.length_pos_iff.2 hne
  have q0 := (l.getD 0 0).toNat_lt
  have q1 := (l.getD 1 0).toNat_lt
  have q2 := (l.getD 2 0).toNat_lt
  have q3 := (l.getD 3 0).toNat_lt
  rw [decodeL_N]
  unfold decodeN
  by_cases a : (l.getD 0 0).toNat < 128
  · rw [if_pos a]
    refine .inr ⟨⟨by simp only; omega, by simp only; omega⟩, ?_, by simp only; omega⟩
    simp only
    unfold oneN
    rw [if_pos a, take1 l hl, eq_byte rfl]
  · rw [if_neg a]
    by_cases b : (l.getD 0 0).toNat / 32 = 6 ∧ 1 < l.length ∧ (l.getD 1 0).toNat / 64 = 2
    · rw [if_pos b]
      by_cases c : (l.getD 0 0).toNat % 32 * 64 + (l.getD 1 0).toNat % 64 ≥ 128
      · rw [if_pos c]
        refine .inr ⟨⟨by simp only; omega, by simp only; omega⟩, ?_, by simp only; omega⟩
        simp only
        unfold oneN
        rw [if_neg (by omega), if_pos (by omega), take2 l (by omega), eq_byte (b := l.getD 0 0) (by omega), eq_byte (b := l.getD 1 0) (by omega)]
      · rw [if_neg c]; exact .inl rfl
    · rw [if_neg b]
      by_cases b3 : (l.getD 0 0).toNat / 16 = 14 ∧ (1 < l.length ∧ (l.getD 1 0).toNat / 64 = 2) ∧ (2 < l.length ∧ (l.getD 2 0).toNat / 64 = 2)
      · rw [if_pos b3]
        by_cases c : (l.getD 0 0).toNat % 16 * 4096 + (l.getD 1 0).toNat % 64 * 64 + (l.getD 2 0).toNat % 64 ≥ 2048 ∧ ((l.getD 0 0).toNat % 16 * 4096 + (l.getD 1 0).toNat % 64 * 64 + (l.getD 2 0).toNat % 64 < 55296 ∨ (57344 ≤ (l.getD 0 0).toNat % 16 * 4096 + (l.getD 1 0).toNat % 64 * 64 + (l.getD 2 0).toNat % 64 ∧ (l.getD 0 0).toNat % 16 * 4096 + (l.getD 1 0).toNat % 64 * 64 + (l.getD 2 0).toNat % 64 ≤ 1114111))
        · rw [if_pos c]
          refine .inr ⟨⟨by simp only; omega, by simp only; omega⟩, ?_, fun _ => rfl⟩
          simp only
          unfold oneN
          rw [if_neg (by omega), if_neg (by omega), if_pos (by omega), take3 l (by omega), eq_byte (b := l.getD 0 0) (by omega), eq_byte (b := l.getD 1 0) (by omega), eq_byte (b := l.getD 2 0) (by omega)]
        · rw [if_neg c]; exact .inl rfl
      · rw [if_neg b3]
        by_cases b4 : (l.getD 0 0).toNat / 8 = 30 ∧ (1 < l.length ∧ (l.getD 1 0).toNat / 64 = 2) ∧ (2 < l.length ∧ (l.getD 2 0).toNat / 64 = 2) ∧ (3 < l.length ∧ (l.getD 3 0).toNat / 64 = 2)
        · rw [if_pos b4]
          by_cases c : (l.getD 0 0).toNat % 8 * 262144 + (l.getD 1 0).toNat % 64 * 4096 + (l.getD 2 0).toNat % 64 * 64 + (l.getD 3 0).toNat % 64 ≥ 65536 ∧ ((l.getD 0 0).toNat % 8 * 262144 + (l.getD 1 0).toNat % 64 * 4096 + (l.getD 2 0).toNat % 64 * 64 + (l.getD 3 0).toNat % 64 < 55296 ∨ (57344 ≤ (l.getD 0 0).toNat % 8 * 262144 + (l.getD 1 0).toNat % 64 * 4096 + (l.getD 2 0).toNat % 64 * 64 + (l.getD 3 0).toNat % 64 ∧ (l.getD 0 0).toNat % 8 * 262144 + (l.getD 1 0).toNat % 64 * 4096 + (l.getD 2 0).toNat % 64 * 64 + (l.getD 3 0).toNat % 64 ≤ 1114111))
          · rw [if_pos c]
            refine .inr ⟨⟨by simp only; omega, by simp only; omega⟩, ?_, by simp only; omega⟩
            simp only
            unfold oneN
            rw [if_neg (by omega), if_neg (by omega), if_neg (by omega), take4 l (by omega), eq_byte (b := l.getD 0 0) (by omega), eq_byte (b := l.getD 1 0) (by omega), eq_byte (b := l.getD 2 0) (by omega), eq_byte (b := l.getD 3 0) (by omega)]
          · rw [if_neg c]; exact .inl rfl
        · rw [if_neg b4]; exact .inl rfl

/-- The encodings, one after the other (a number that is no code point as 65533). -/
def encN (ns : List Nat) : List UInt8 := ns.flatMap oneN
theorem encN_cons (n : Nat) (ns : List Nat) : encN (n :: ns) = oneN n ++ encN ns := by simp [encN]
theorem encN_append (a b : List Nat) : encN (a ++ b) = encN a ++ encN b := by simp [encN]

theorem els_encN : ∀ ns : List Nat, (∀ n ∈ ns, isPt n) → els (encN ns) = ns
  | [], _ => rfl
  | n :: ns, h => by
    have hn := h n (by simp)
    have ih := els_encN ns (fun m hm => h m (by simp [hm]))
    have hlen := (oneN_len n).1
    have hne : oneN n ++ encN ns ≠ [] := by
      intro e
      have := congrArg List.length e
      rw [List.length_append, List.length_nil] at this
      omega
    rw [encN_cons, els_step _ hne, dec_one n hn, List.drop_left, ih]
theorem valid_encN : ∀ ns : List Nat, (∀ n ∈ ns, isPt n) → validD (encN ns) = true
  | [], _ => rfl
  | n :: ns, h => by
    have hn := h n (by simp)
    have ih := valid_encN ns (fun m hm => h m (by simp [hm]))
    have hlen := (oneN_len n).1
    have hne : oneN n ++ encN ns ≠ [] := by
      intro e
      have := congrArg List.length e
      rw [List.length_append, List.length_nil] at this
      omega
    rw [encN_cons, validD_step _ hne, dec_one n hn, if_neg ?_, List.drop_left, ih]
    rintro ⟨e1, e2⟩
    simp only at e1 e2
    subst e1
    simp [oneN] at e2

/-- Encoding the elements yields the string exactly if it is valid. -/
theorem enc_els : ∀ (k : Nat) (l : List UInt8), l.length ≤ k → (l.length ≤ (encN (els l)).length) ∧ (validD l = true → encN (els l) = l) ∧ (validD l = false → l.length < (encN (els l)).length)
  | 0, l, h => by
    have : l = [] := List.eq_nil_of_length_eq_zero (by omega)
    subst this
    simp [els_nil, encN, validD_nil]
  | k + 1, l, h => by
    by_cases hne : l = []
    · subst hne; simp [els_nil, encN, validD_nil]
    · have hl : 0 < l.length := List.length_pos_iff.2 hne
      have hw := decodeL_width l
      have hwl := decodeL_le l hne
      have ih := enc_els k (l.drop (decodeL l).2) (by rw [List.length_drop]; omega)
      rw [els_step l hne, encN_cons, validD_step l hne, List.length_append]
      have hsz : (l.drop (decodeL l).2).length = l.length - (decodeL l).2 := List.length_drop
      rcases dec_shape l hne with hd | ⟨hp, hs, h3⟩
      · rw [hd] at ih hsz ⊢
        have h3 : (oneN 65533).length = 3 := rfl
        simp only at ih hsz
        refine ⟨by simp only; omega, fun hv => ?_, fun _ => by simp only; omega⟩
        simp at hv
      · have hn : ¬ ((decodeL l).1 = 65533 ∧ (decodeL l).2 = 1) := by rintro ⟨e1, e2⟩; have := h3 e1; omega
        have ho : (oneN (decodeL l).1).length = (decodeL l).2 := by rw [hs, List.length_take]; omega
        rw [if_neg hn, hs]
        rw [hs] at ho
        refine ⟨by omega, fun hv => ?_, fun hv => ?_⟩
        · rw [ih.2.1 hv, List.take_append_drop]
        · have := ih.2.2 hv; omega
theorem enc_els_iff (l : List UInt8) : (encN (els l) = l) ↔ validD l = true := by
  obtain ⟨h1, h2, h3⟩ := enc_els _ l (Nat.le_refl _)
  refine ⟨fun h => ?_, h2⟩
  cases hv : validD l with
  | true => rfl
  | false => have := h3 hv; rw [h] at this; omega
theorem els_pt : ∀ (k : Nat) (l : List UInt8), l.length ≤ k → ∀ n ∈ els l, isPt n
  | 0, l, h => by
    have : l = [] := List.eq_nil_of_length_eq_zero (by omega)
    subst this; simp [els_nil]
  | k + 1, l, h => by
    by_cases hne : l = []
    · subst hne; simp [els_nil]
    · have hw := decodeL_width l
      have hl : 0 < l.length := List.length_pos_iff.2 hne
      rw [els_step l hne]
      intro n hn
      rcases List.mem_cons.1 hn with rfl | hn
      · rcases dec_shape l hne with hd | ⟨hp, _⟩
        · rw [hd]; exact ⟨by decide, by decide⟩
        · exact hp
      · exact els_pt k _ (by rw [List.length_drop]; omega) n hn
theorem encN_len (ns : List Nat) : (encN ns).length ≤ 4 * ns.length := by
  induction ns with
  | nil => simp [encN]
  | cons n ns ih =>
    have := (oneN_len n).2
    rw [encN_cons, List.length_append, List.length_cons]; omega
end U8
end Go.Proofs.Ytgefbagojghmeaa
