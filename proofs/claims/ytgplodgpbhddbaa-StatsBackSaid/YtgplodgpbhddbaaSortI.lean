/-
  Proved here: the library's functions of the shelf lie in this seat's program (written by the kit's tool for it).
  Conditions: none.
-/
import Derived.Shelf.SlLaysNS
import Derived.Test.YtgplodgpbhddbaaProg
namespace Go.Proofs
open Go.Shelf
def Try.sortI_ren : Go.Shelf.Ren := ⟨fun | 53 => 63 | 64 => 89 | 63 => 88 | 78 => 115 | 79 => 116 | 70 => 106 | 71 => 107 | 72 => 108 | 73 => 109 | 74 => 110 | 75 => 111 | 59 => 112 | 76 => 113 | 77 => 114 | 88 => 144 | 89 => 145 | 90 => 146 | 91 => 147 | 92 => 148 | 68 => 149 | 96 => 164 | n => n, fun | 22 => 22 | 23 => 3 | 3 => 3 | 51 => 139 | 0 => 0 | 67 => 168 | 69 => 170 | 4 => 4 | 61 => 162 | 60 => 161 | 44 => 24 | 5 => 5 | 9 => 9 | 75 => 194 | 79 => 198 | 83 => 213 | 84 => 214 | n => n, fun | n => n⟩
theorem Try.sortI : Go.Proofs.SlLaysN.n53 Try.prog Try.sortI_ren := {
  mixed := by kernel_rfl
  f53 := ⟨Try.f63.name, by decide, Try.func63.trans (congrArg some (by kernel_rfl))⟩
  f59 := ⟨Try.f112.name, by decide, Try.func112.trans (congrArg some (by kernel_rfl))⟩
  f63 := ⟨Try.f88.name, by decide, Try.func88.trans (congrArg some (by kernel_rfl))⟩
  f64 := Try.func89.trans (congrArg some (by kernel_rfl))
  f68 := ⟨Try.f149.name, by decide, Try.func149.trans (congrArg some (by kernel_rfl))⟩
  f70 := ⟨Try.f106.name, by decide, Try.func106.trans (congrArg some (by kernel_rfl))⟩
  f71 := ⟨Try.f107.name, by decide, Try.func107.trans (congrArg some (by kernel_rfl))⟩
  f72 := ⟨Try.f108.name, by decide, Try.func108.trans (congrArg some (by kernel_rfl))⟩
  f73 := ⟨Try.f109.name, by decide, Try.func109.trans (congrArg some (by kernel_rfl))⟩
  f74 := ⟨Try.f110.name, by decide, Try.func110.trans (congrArg some (by kernel_rfl))⟩
  f75 := ⟨Try.f111.name, by decide, Try.func111.trans (congrArg some (by kernel_rfl))⟩
  f76 := ⟨Try.f113.name, by decide, Try.func113.trans (congrArg some (by kernel_rfl))⟩
  f77 := ⟨Try.f114.name, by decide, Try.func114.trans (congrArg some (by kernel_rfl))⟩
  f78 := Try.func115.trans (congrArg some (by kernel_rfl))
  f79 := Try.func116.trans (congrArg some (by kernel_rfl))
  f88 := ⟨Try.f144.name, by decide, Try.func144.trans (congrArg some (by kernel_rfl))⟩
  f89 := Try.func145.trans (congrArg some (by kernel_rfl))
  f90 := Try.func146.trans (congrArg some (by kernel_rfl))
  f91 := ⟨Try.f147.name, by decide, Try.func147.trans (congrArg some (by kernel_rfl))⟩
  f92 := ⟨Try.f148.name, by decide, Try.func148.trans (congrArg some (by kernel_rfl))⟩
  f96 := ⟨Try.f164.name, by decide, Try.func164.trans (congrArg some (by kernel_rfl))⟩
  t0 := Try.underlying0
  a0 := Try.isAgg0
  z0 := Try.sizeOf0
  v0 := Try.zeroValue0
  t3 := Try.underlying3
  a3 := Try.isAgg3
  z3 := Try.sizeOf3
  v3 := Try.zeroValue3
  t4 := Try.underlying4
  a4 := Try.isAgg4
  z4 := Try.sizeOf4
  v4 := Try.zeroValue4
  t5 := Try.underlying5
  a5 := Try.isAgg5
  z5 := Try.sizeOf5
  v5 := Try.zeroValue5
  t9 := Try.underlying9
  a9 := Try.isAgg9
  z9 := Try.sizeOf9
  v9 := Try.zeroValue9
  t22 := Try.underlying22
  a22 := Try.isAgg22
  z22 := Try.sizeOf22
  v22 := Try.zeroValue22
  t23 := Try.underlying3
  a23 := Try.isAgg3
  z23 := Try.sizeOf3
  v23 := Try.zeroValue3
  t44 := Try.underlying24
  a44 := Try.isAgg24
  z44 := Try.sizeOf24
  v44 := Try.zeroValue24
  t51 := Try.underlying139
  a51 := Try.isAgg139
  z51 := Try.sizeOf139
  v51 := Try.zeroValue139
  t60 := Try.underlying161
  a60 := Try.isAgg161
  z60 := Try.sizeOf161
  v60 := Try.zeroValue161
  t61 := Try.underlying162
  a61 := Try.isAgg162
  z61 := Try.sizeOf162
  v61 := Try.zeroValue162
  t67 := Try.underlying168
  a67 := Try.isAgg168
  z67 := Try.sizeOf168
  v67 := Try.zeroValue168
  t69 := Try.underlying170
  a69 := Try.isAgg170
  z69 := Try.sizeOf170
  v69 := Try.zeroValue170
  t75 := Try.underlying194
  a75 := Try.isAgg194
  z75 := Try.sizeOf194
  v75 := Try.zeroValue194
  t79 := Try.underlying198
  a79 := Try.isAgg198
  z79 := Try.sizeOf198
  v79 := Try.zeroValue198
  t83 := Try.underlying213
  a83 := Try.isAgg213
  z83 := Try.sizeOf213
  v83 := Try.zeroValue213
  t84 := Try.underlying214
  a84 := Try.isAgg214
  z84 := Try.sizeOf214
  v84 := Try.zeroValue214 }
end Go.Proofs
