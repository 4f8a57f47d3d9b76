/-
  calqueref01.Encode: the encodings, one after the other. calqueref01.Valid: whether a string consists of encodings.
-/
import Derived.Test.YtgefbagojghmeabU8W14
import Derived.Test.YtgefbagojghmeabU8d
namespace Go.Proofs.Ytgefbagojghmeab
open Go.RowKit

theorem oneL_bytes (n : Nat) : strOfNums (oneL n) = ⟨(U8.oneN n).toArray⟩ := by
  have e : ∀ m : Nat, UInt8.ofNat (m : Int).toNat = UInt8.ofNat m := fun m => rfl
  unfold oneL U8.oneN strOfNums
  by_cases a : n < 128
  · rw [if_pos (by omega), if_pos a]; simp
  by_cases b : n < 2048
  · rw [if_neg (by omega), if_pos (by omega), if_neg a, if_pos b]
    simp only [List.map_cons, List.map_nil]
    rw [show (192 + (n : Int) / 64).toNat = 192 + n / 64 by omega, show (128 + (n : Int) % 64).toNat = 128 + n % 64 by omega]
  by_cases c : n < 65536
  · rw [if_neg (by omega), if_neg (by omega), if_pos (by omega), if_neg a, if_neg b, if_pos c]
    simp only [List.map_cons, List.map_nil]
    rw [show (224 + (n : Int) / 4096).toNat = 224 + n / 4096 by omega, show (128 + (n : Int) / 64 % 64).toNat = 128 + n / 64 % 64 by omega, show (128 + (n : Int) % 64).toNat = 128 + n % 64 by omega]
  · rw [if_neg (by omega), if_neg (by omega), if_neg (by omega), if_neg a, if_neg b, if_neg c]
    simp only [List.map_cons, List.map_nil]
    rw [show (240 + (n : Int) / 262144).toNat = 240 + n / 262144 by omega, show (128 + (n : Int) / 4096 % 64).toNat = 128 + n / 4096 % 64 by omega, show (128 + (n : Int) / 64 % 64).toNat = 128 + n / 64 % 64 by omega, show (128 + (n : Int) % 64).toNat = 128 + n % 64 by omega]
theorem one_nat (n : Int) (h0 : 0 ≤ n) (h1 : n ≤ 1114111) (w : World) : Calls Try.prog 29 #[.int .i64 n] w fun e w' => e = .returned (.string ⟨(U8.oneN n.toNat).toArray⟩) ∧ Below w.heap.size w w' := by
  refine (one_any n w h0 h1).mono ?_
  rintro e w' ⟨he, hb⟩
  obtain ⟨m, rfl⟩ := Int.eq_ofNat_of_zero_le h0
  rw [oneL_bytes] at he
  exact ⟨he, hb⟩
def EncP (xs : List Int) (w : World) (e : Ending) (w' : World) : Prop := e = .returned (.string (encS xs)) ∧ Below w.heap.size w w'

def ValP (s : ByteArray) (w : World) (e : Ending) (w' : World) : Prop := e = .returned (.bool (Lib.validD s.data.toList)) ∧ Below w.heap.size w w'
theorem encS_els (s : ByteArray) : encS (ints (U8.els s.data.toList)) = ⟨(U8.encN (U8.els s.data.toList)).toArray⟩ := by
  unfold encS ints
  rw [List.map_map]
  congr 3
  exact (List.map_congr_left (g := id) (fun n hn => norm_nat (U8.els_pt _ _ (Nat.le_refl _) n hn))).trans (List.map_id _)
theorem valid_eq (s : ByteArray) : ((encS (ints (U8.els s.data.toList))).toList == s.toList) = Lib.validD s.data.toList := by
  rw [ByteArray.toList_eq, ByteArray.toList_eq, encS_els, Bool.eq_iff_iff, beq_iff_eq]
  exact U8.enc_els_iff _

end Go.Proofs.Ytgefbagojghmeab
