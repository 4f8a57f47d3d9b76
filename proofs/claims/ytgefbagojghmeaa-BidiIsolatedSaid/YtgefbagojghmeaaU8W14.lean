/-
  calqueref01.Decode: a new slice of the elements.
-/
import Derived.Test.YtgefbagojghmeaaU8W3
import Derived.Test.YtgefbagojghmeaaU8W8
namespace Go.Proofs.Ytgefbagojghmeaa
open Go.RowKit

theorem own_below {w w' : World} {base : Nat} {e : TypeId} {size n : Nat} {v : Value} {xs : List Value} (h : w.ownsRow base e size v n xs) (hb : Below w.heap.size w w') : w'.ownsRow base e size v n xs := by
  refine ⟨h.1, ?_⟩
  rcases h.2 with h | ⟨g, cap, cur, h1, h2, h3, h4⟩
  · exact .inl h
  · exact .inr ⟨g, cap, cur, h1, h2, (hb.block g (heap_lt' h3)).trans h3, h4⟩
theorem own_base {w : World} {base base' : Nat} {e : TypeId} {size n : Nat} {v : Value} {xs : List Value} (h : w.ownsRow base e size v n xs) (hb : base' ≤ base) : w.ownsRow base' e size v n xs := by
  refine ⟨h.1, ?_⟩
  rcases h.2 with h | ⟨g, cap, cur, h1, h2, h3⟩
  · exact .inl h
  · exact .inr ⟨g, cap, cur, h1, by omega, h3⟩
theorem own_ge {w : World} {base : Nat} {e : TypeId} {size n : Nat} {v : Value} {xs : List Value} (h : w.ownsRow base e size v n xs) : ∀ k, v.ownBlock = some k → base ≤ k := fun k hk => (h.lt k hk).1
theorem tail_list (s : ByteArray) (n : Nat) : (s.extract n s.size).data.toList = s.data.toList.drop n := by
  rw [Lib.extract_data, List.take_of_length_le (by rw [List.length_drop, U8.size_len]; exact Nat.le_refl _)]
theorem next_here (t : ByteArray) (c z : Nat) (hs : t.size ≤ 4611686018427387904) (hq : 0 < t.size) (hd : Lib.decodeL t.data.toList = (c, z)) (w : World) :
    Calls Try.prog 36 #[.string t] w fun e w' => e = .returned (.tuple #[.int .i64 c, .int .i64 z]) ∧ Below w.heap.size w w' := by
  refine (next_any t w hs hq).mono ?_
  rintro e w' ⟨he, hb⟩
  rw [hd] at he
  exact ⟨he, hb⟩

set_option maxRecDepth 100000 in
set_option maxHeartbeats 1000000 in
theorem refdecode_any (s : ByteArray) (hs : s.size ≤ 1000000) (w : World) : Calls Try.prog 13 #[.string s] w (DecP s w) := by
  obtain ⟨i0, hi, hz0, hz1, hz2⟩ := info_parts Try.infoInt
  go_enter Try.func13, Try.ntmps13
  go_wp2
  go_loopw [0, 3] (fun t v wr => ∃ (acc : List Nat) (p : Nat) (u : ByteArray), t = .string u ∧ u.data.toList = s.data.toList.drop p ∧ p ≤ s.size ∧ U8.els s.data.toList = acc ++ U8.els u.data.toList ∧ acc.length ≤ p ∧
      wr.ownsRow w.heap.size 3 1 v (ints acc).length ((ints acc).map (Value.int .i64)) ∧ Below w.heap.size w wr) (fun t _ _ => match t with | .string u => u.size | _ => 0)
  case atStart =>
    exact ⟨[], 0, s, rfl, by simp, Nat.zero_le _, by simp, Nat.le_refl _, World.ownsRow_nil _ _ _ _, Below.refl _ _⟩
  case round =>
    obtain ⟨acc, p, u, rfl, hu, hp, he, hal, hown, hbel⟩ := hrel
    have hus : u.size = s.size - p := by rw [← U8.size_len, hu, List.length_drop, U8.size_len]
    by_cases hlt : 0 < u.size
    · obtain ⟨⟨c, z⟩, hd⟩ : ∃ d, Lib.decodeL u.data.toList = d := ⟨_, rfl⟩
      have hne : u.data.toList ≠ [] := by
        intro e
        have := congrArg List.length e
        rw [U8.size_len, List.length_nil] at this
        omega
      have h1 := Lib.decodeL_width u.data.toList
      have h2 := Lib.decodeL_le _ hne
      have h4 := U8.els_step _ hne
      rw [hd] at h1 h2 h4
      dsimp only at h1 h2 h4
      rw [U8.size_len] at h2
      have hul : u.size ≤ 1000000 := by omega
      have hps : p + z ≤ s.size := by omega
      have hn : U8.els s.data.toList = (acc ++ [c]) ++ U8.els (u.extract z u.size).data.toList := by rw [tail_list, he, h4]; simp
      have hn2 : (u.extract z u.size).data.toList = s.data.toList.drop (p + z) := by rw [tail_list, hu, List.drop_drop]
      have hn3 : (u.extract z u.size).size + z = u.size := by rw [← U8.size_len, tail_list, List.length_drop, U8.size_len]; omega
      have HC := Lib.hid (next_here u c z (by omega) hlt hd)
      have HN := Lib.hid hn
      have HN2 := Lib.hid hn2
      have HN3 := Lib.hid hn3
      clear hd hne h4 hn hn2 hn3 he hu hus
      go_wp2_with fail
      refine (HC.out _).mono ?_
      rintro e w1 ⟨rfl, hb⟩
      have ho1 := own_below hown hb
      have hb1 : Below w.heap.size w w1 := hbel.trans (hb.mono hbel.size)
      have hsz : w.heap.size ≤ w1.heap.size := hb1.size
      have HO := Lib.hid (own_ge ho1)
      clear hb hown hbel HC
      go_wp2_with (at_builtin; refine wpList_append_own _ rfl _ _ 24 rfl w.heap.size 3 i0 (.int .i64 0) 1 8 Try.underlying24 hi hz0 hz1 hz2 rfl (by decide) _ _ _ rfl (ho1.alloc _) ⟨w1.heap.size, 0, none⟩ 1 1 [.int .i64 c] rfl rfl (cell_one_new _ _ _) (by intro u hu; simp at hu; subst hu; rfl) (by simp [ints]; unfold maxLen; omega) (by simp [ints]; omega) (by simp; omega) ?_; intro v' w2 hown' hgrow _)
      have hg : (w1.alloc (.cells #[.int .i64 c] 3)).grownBy w2 u3.ownBlock := hgrow
      have hb2 := (hb1.alloc hsz _).grown hg (by simp; omega) (fun k e => HO.out k e)
      refine ⟨⟨acc ++ [c], p + z, _, rfl, HN2.out, hps, HN.out, by simp; omega, ?_, hb2⟩, ?_⟩
      · simpa [ints] using hown'
      · have := HN3.out
        show (u.extract z u.size).size < u.size
        omega
    · have hnil : u.data.toList = [] := List.eq_nil_of_length_eq_zero (by rw [U8.size_len]; omega)
      rw [hnil, U8.els_nil, List.append_nil] at he
      have HE := Lib.hid he
      have HO := Lib.hid hown
      have HBL := Lib.hid hbel
      clear he hown hbel hnil hu
      go_wp2
      go_ret
      unfold DecP
      rw [HE.out]
      exact ⟨_, rfl, HO.out, HBL.out⟩
end Go.Proofs.Ytgefbagojghmeaa
