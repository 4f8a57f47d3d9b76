/-
  The library's functions of a builder, laid at this program: String.
-/
import Derived.Shelf.Strings.BuilderRune
import Derived.Test.YtpjafemkdoeflaaProg
import Derived.Laws.Externs
namespace Go.Proofs
open Go.Shelf Go.RowKit
def Try.layB_ren : Go.Shelf.Ren := ⟨fun | 169 => 25 | n => n, fun | 37 => 38 | 4 => 4 | 5 => 5 | 70 => 49 | 9 => 9 | 0 => 0 | 72 => 51 | 127 => 58 | 3 => 3 | n => n, fun | n => n⟩
theorem Try.layB169 : Go.Proofs.Lays.n169 Try.prog Try.layB_ren := {
  mixed := by kernel_rfl
  f169 := Try.func25.trans (congrArg some (by kernel_rfl))
  t0 := Try.underlying0
  a0 := Try.isAgg0
  z0 := Try.sizeOf0
  v0 := Try.zeroValue0
  t3 := Try.underlying3
  a3 := Try.isAgg3
  z3 := Try.sizeOf3
  v3 := Try.zeroValue3
  t9 := Try.underlying9
  a9 := Try.isAgg9
  z9 := Try.sizeOf9
  v9 := Try.zeroValue9
  t37 := Try.underlying38
  a37 := Try.isAgg38
  z37 := Try.sizeOf38
  v37 := Try.zeroValue38
  t70 := Try.underlying49
  a70 := Try.isAgg49
  z70 := Try.sizeOf49
  v70 := Try.zeroValue49
  t72 := Try.underlying51
  a72 := Try.isAgg51
  z72 := Try.sizeOf51
  v72 := Try.zeroValue51
  t127 := Try.underlying58
  a127 := Try.isAgg58
  z127 := Try.sizeOf58
  v127 := Try.zeroValue58 }
theorem Try.layBx : Builder.Extra Try.prog Try.layB_ren := {
  sizeBuilder := by kernel_rfl
  liesBuilder := by kernel_rfl
  t5 := Try.underlying5
  a5 := Try.isAgg5
  z5 := Try.sizeOf5
  v5 := Try.zeroValue5
  infoByte := by kernel_rfl
  cellsByte := by kernel_rfl
  sizeByte := by kernel_rfl
  neB5 := by decide }
end Go.Proofs
