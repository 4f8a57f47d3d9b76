/-
  The library's functions of a builder, laid at this program: AppendRune and String. Then copyCheck and WriteRune, walked.
-/
import Derived.Shelf.Strings.BuilderRune
import Derived.Test.YtgefbagojghmeabProg
import Derived.Laws.Externs
namespace Go.Proofs
open Go.Shelf Go.RowKit
def Try.layB_ren : Go.Shelf.Ren := ⟨fun | 242 => 34 | 278 => 39 | 169 => 18 | n => n, fun | 37 => 40 | 21 => 21 | 51 => 73 | 4 => 4 | 5 => 5 | 46 => 74 | 70 => 39 | 9 => 9 | 0 => 0 | 72 => 42 | 127 => 60 | 3 => 3 | n => n, fun | n => n⟩
theorem Try.layB242 : Go.Proofs.Lays.n242 Try.prog Try.layB_ren := {
  mixed := by kernel_rfl
  f242 := Try.func34.trans (congrArg some (by kernel_rfl))
  f278 := Try.func39.trans (congrArg some (by kernel_rfl))
  t4 := Try.underlying4
  a4 := Try.isAgg4
  z4 := Try.sizeOf4
  v4 := Try.zeroValue4
  t5 := Try.underlying5
  a5 := Try.isAgg5
  z5 := Try.sizeOf5
  v5 := Try.zeroValue5
  t21 := Try.underlying21
  a21 := Try.isAgg21
  z21 := Try.sizeOf21
  v21 := Try.zeroValue21
  t37 := Try.underlying40
  a37 := Try.isAgg40
  z37 := Try.sizeOf40
  v37 := Try.zeroValue40
  t46 := Try.underlying74
  a46 := Try.isAgg74
  z46 := Try.sizeOf74
  v46 := Try.zeroValue74
  t51 := Try.underlying73
  a51 := Try.isAgg73
  z51 := Try.sizeOf73
  v51 := Try.zeroValue73 }
theorem Try.layB169 : Go.Proofs.Lays.n169 Try.prog Try.layB_ren := {
  mixed := by kernel_rfl
  f169 := Try.func18.trans (congrArg some (by kernel_rfl))
  t0 := Try.underlying0
  a0 := Try.isAgg0
  z0 := Try.sizeOf0
  v0 := Try.zeroValue0
  t3 := Try.underlying3
  a3 := Try.isAgg3
  z3 := Try.sizeOf3
  v3 := Try.zeroValue3
  t9 := Try.underlying9
  a9 := Try.isAgg9
  z9 := Try.sizeOf9
  v9 := Try.zeroValue9
  t37 := Try.underlying40
  a37 := Try.isAgg40
  z37 := Try.sizeOf40
  v37 := Try.zeroValue40
  t70 := Try.underlying39
  a70 := Try.isAgg39
  z70 := Try.sizeOf39
  v70 := Try.zeroValue39
  t72 := Try.underlying42
  a72 := Try.isAgg42
  z72 := Try.sizeOf42
  v72 := Try.zeroValue42
  t127 := Try.underlying60
  a127 := Try.isAgg60
  z127 := Try.sizeOf60
  v127 := Try.zeroValue60 }
theorem Try.layBx : Builder.Extra Try.prog Try.layB_ren := {
  sizeBuilder := by kernel_rfl
  liesBuilder := by kernel_rfl
  t5 := Try.underlying5
  a5 := Try.isAgg5
  z5 := Try.sizeOf5
  v5 := Try.zeroValue5
  infoByte := by kernel_rfl
  cellsByte := by kernel_rfl
  sizeByte := by kernel_rfl
  neB5 := by decide }
end Go.Proofs
