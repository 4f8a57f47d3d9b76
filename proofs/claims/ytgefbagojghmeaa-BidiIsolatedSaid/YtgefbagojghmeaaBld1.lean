/-
  The library's functions of a builder, laid at this program: AppendRune and String. Then copyCheck and WriteRune, walked.
-/
import Derived.Shelf.Strings.BuilderRune
import Derived.Test.YtgefbagojghmeaaProg
import Derived.Laws.Externs
namespace Go.Proofs
open Go.Shelf Go.RowKit
def Try.layB_ren : Go.Shelf.Ren := ⟨fun | 242 => 59 | 278 => 63 | 169 => 48 | n => n, fun | 37 => 60 | 21 => 21 | 51 => 84 | 4 => 4 | 5 => 5 | 46 => 85 | 70 => 59 | 9 => 9 | 0 => 0 | 72 => 62 | 127 => 80 | 3 => 3 | n => n, fun | n => n⟩
theorem Try.layB242 : Go.Proofs.Lays.n242 Try.prog Try.layB_ren := {
  mixed := by kernel_rfl
  f242 := Try.func59.trans (congrArg some (by kernel_rfl))
  f278 := Try.func63.trans (congrArg some (by kernel_rfl))
  t4 := Try.underlying4
  a4 := Try.isAgg4
  z4 := Try.sizeOf4
  v4 := Try.zeroValue4
  t5 := Try.underlying5
  a5 := Try.isAgg5
  z5 := Try.sizeOf5
  v5 := Try.zeroValue5
  t21 := Try.underlying21
  a21 := Try.isAgg21
  z21 := Try.sizeOf21
  v21 := Try.zeroValue21
  t37 := Try.underlying60
  a37 := Try.isAgg60
  z37 := Try.sizeOf60
  v37 := Try.zeroValue60
  t46 := Try.underlying85
  a46 := Try.isAgg85
  z46 := Try.sizeOf85
  v46 := Try.zeroValue85
  t51 := Try.underlying84
  a51 := Try.isAgg84
  z51 := Try.sizeOf84
  v51 := Try.zeroValue84 }
theorem Try.layB169 : Go.Proofs.Lays.n169 Try.prog Try.layB_ren := {
  mixed := by kernel_rfl
  f169 := Try.func48.trans (congrArg some (by kernel_rfl))
  t0 := Try.underlying0
  a0 := Try.isAgg0
  z0 := Try.sizeOf0
  v0 := Try.zeroValue0
  t3 := Try.underlying3
  a3 := Try.isAgg3
  z3 := Try.sizeOf3
  v3 := Try.zeroValue3
  t9 := Try.underlying9
  a9 := Try.isAgg9
  z9 := Try.sizeOf9
  v9 := Try.zeroValue9
  t37 := Try.underlying60
  a37 := Try.isAgg60
  z37 := Try.sizeOf60
  v37 := Try.zeroValue60
  t70 := Try.underlying59
  a70 := Try.isAgg59
  z70 := Try.sizeOf59
  v70 := Try.zeroValue59
  t72 := Try.underlying62
  a72 := Try.isAgg62
  z72 := Try.sizeOf62
  v72 := Try.zeroValue62
  t127 := Try.underlying80
  a127 := Try.isAgg80
  z127 := Try.sizeOf80
  v127 := Try.zeroValue80 }
theorem Try.layBx : Builder.Extra Try.prog Try.layB_ren := {
  sizeBuilder := by kernel_rfl
  liesBuilder := by kernel_rfl
  t5 := Try.underlying5
  a5 := Try.isAgg5
  z5 := Try.sizeOf5
  v5 := Try.zeroValue5
  infoByte := by kernel_rfl
  cellsByte := by kernel_rfl
  sizeByte := by kernel_rfl
  neB5 := by decide }
end Go.Proofs
