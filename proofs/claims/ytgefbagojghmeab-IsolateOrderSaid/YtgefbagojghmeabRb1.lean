/-
  calqueref23.Matched: whether initiators and terminators match.
-/
import Derived.Test.YtgefbagojghmeabRd2
namespace Go.Proofs.Ytgefbagojghmeab
open Go.RowKit

def cnt : Nat → List Int → Bool
  | h, [] => decide (h = 0)
  | h, c :: l => if initB c then cnt (h + 1) l else if termB c then (if h = 0 then false else cnt (h - 1) l) else cnt h l
def MatchedP (xs : List Int) (w : World) (e : Ending) (w' : World) : Prop := e = .returned (.bool (cnt 0 xs)) ∧ Below w.heap.size w w'

end Go.Proofs.Ytgefbagojghmeab
