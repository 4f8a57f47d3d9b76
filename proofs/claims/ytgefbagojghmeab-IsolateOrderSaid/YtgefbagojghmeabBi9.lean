/-
  calqueref23.fill: puts the levels of a segment.
-/
import Derived.Test.YtgefbagojghmeabBi7
import Derived.Test.YtgefbagojghmeabRowW
import Derived.Deep.DeepCutAuto
import Derived.Deep.CutBlock
import Derived.StillTailTactics
namespace Go.Proofs.Ytgefbagojghmeab
open Go.RowKit

theorem grown_dr {g : Nat} {w wr : World} (h : w.grownBy wr (some g)) : w.grownBy { wr with drawn := wr.drawn + 1 } (some g) := ⟨h.os, h.tape, h.output, h.size, h.block⟩
end Go.Proofs.Ytgefbagojghmeab
