/-
  Proved here: the functions of strings.Builder lie in this seat's program.
  Conditions: none.
-/
import Derived.Shelf.Lays
import Derived.Shelf.Strings.BuilderX
import Derived.KernelRfl
import Derived.Test.YtgplodgpbhddbaaProg
namespace Go.Proofs
open Go.Shelf
def Try.bld_ren : Go.Shelf.Ren := ⟨fun | 166 => 105 | 240 => 143 | 276 => 163 | 169 => 87 | n => n, fun | 0 => 0 | 3 => 3 | 4 => 4 | 5 => 5 | 9 => 9 | 20 => 20 | 37 => 132 | 70 => 131 | 72 => 134 | 75 => 156 | 80 => 136 | 127 => 159 | 164 => 211 | n => n, fun | n => n⟩
theorem Try.bldW : Go.Proofs.Lays.n166 Try.prog Try.bld_ren := {
  mixed := by kernel_rfl
  f166 := Try.func105.trans (congrArg some (by kernel_rfl))
  f240 := Try.func143.trans (congrArg some (by kernel_rfl))
  f276 := Try.func163.trans (congrArg some (by kernel_rfl))
  t0 := Try.underlying0
  a0 := Try.isAgg0
  z0 := Try.sizeOf0
  v0 := Try.zeroValue0
  t3 := Try.underlying3
  a3 := Try.isAgg3
  z3 := Try.sizeOf3
  v3 := Try.zeroValue3
  t4 := Try.underlying4
  a4 := Try.isAgg4
  z4 := Try.sizeOf4
  v4 := Try.zeroValue4
  t9 := Try.underlying9
  a9 := Try.isAgg9
  z9 := Try.sizeOf9
  v9 := Try.zeroValue9
  t20 := Try.underlying20
  a20 := Try.isAgg20
  z20 := Try.sizeOf20
  v20 := Try.zeroValue20
  t37 := Try.underlying132
  a37 := Try.isAgg132
  z37 := Try.sizeOf132
  v37 := Try.zeroValue132
  t70 := Try.underlying131
  a70 := Try.isAgg131
  z70 := Try.sizeOf131
  v70 := Try.zeroValue131
  t72 := Try.underlying134
  a72 := Try.isAgg134
  z72 := Try.sizeOf134
  v72 := Try.zeroValue134
  t75 := Try.underlying156
  a75 := Try.isAgg156
  z75 := Try.sizeOf156
  v75 := Try.zeroValue156
  t164 := Try.underlying211
  a164 := Try.isAgg211
  z164 := Try.sizeOf211
  v164 := Try.zeroValue211 }
theorem Try.bldS : Go.Proofs.Lays.n169 Try.prog Try.bld_ren := {
  mixed := by kernel_rfl
  f169 := Try.func87.trans (congrArg some (by kernel_rfl))
  t0 := Try.underlying0
  a0 := Try.isAgg0
  z0 := Try.sizeOf0
  v0 := Try.zeroValue0
  t3 := Try.underlying3
  a3 := Try.isAgg3
  z3 := Try.sizeOf3
  v3 := Try.zeroValue3
  t9 := Try.underlying9
  a9 := Try.isAgg9
  z9 := Try.sizeOf9
  v9 := Try.zeroValue9
  t37 := Try.underlying132
  a37 := Try.isAgg132
  z37 := Try.sizeOf132
  v37 := Try.zeroValue132
  t70 := Try.underlying131
  a70 := Try.isAgg131
  z70 := Try.sizeOf131
  v70 := Try.zeroValue131
  t72 := Try.underlying134
  a72 := Try.isAgg134
  z72 := Try.sizeOf134
  v72 := Try.zeroValue134
  t127 := Try.underlying159
  a127 := Try.isAgg159
  z127 := Try.sizeOf159
  v127 := Try.zeroValue159 }
theorem Try.bldX : Builder.Extra Try.prog Try.bld_ren := {
  sizeBuilder := by kernel_rfl
  liesBuilder := by kernel_rfl
  t5 := Try.underlying5
  a5 := Try.isAgg5
  z5 := Try.sizeOf5
  v5 := Try.zeroValue5
  infoByte := by kernel_rfl
  cellsByte := by kernel_rfl
  sizeByte := by kernel_rfl
  neB5 := by decide }
end Go.Proofs
