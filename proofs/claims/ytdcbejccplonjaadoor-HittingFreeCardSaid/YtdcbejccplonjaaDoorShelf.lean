/-
  DERIVED: THE SHELF's CONTRACTS AT THIS DUMP, IN PLAIN WORDS (tools/lay-plain.mjs out of 'TrydShelf.lean', which tools/lay-shelf.mjs wrote): THE SAME DECLARATIONS UNDER THE SAME NAMES: 'import', 'namespace', 'open', 'def', 'theorem' AND NOTHING ELSE: no command of the shelf's: FOR A HAND-IN. Each laying: the table of numbers ('.._ren') and one theorem, a field a fact of the dump's own or the kernel's comparison; each contract: ONE APPLICATION.
-/
import Derived.Shelf.Small.Wraps
import Derived.Shelf.Spec.TrailingZeros
import Derived.Shelf.SlicesE.IndexFunc
import Derived.Test.YtdcbejccplonjaaDoorProg
namespace Go.Proofs
open Go.Shelf
def Tryd.laysTz_ren : Go.Shelf.Ren := ⟨fun | 29 => 52 | n => n, fun | 22 => 52 | 3 => 3 | 4 => 4 | 25 => 77 | 54 => 88 | 0 => 0 | 5 => 5 | n => n, fun | 1 => 0 | n => n⟩
theorem Tryd.laysTz : Go.Proofs.Lays7.n29 Tryd.prog Tryd.laysTz_ren := {
  mixed := by kernel_rfl
  f29 := Tryd.func52.trans (congrArg some (by kernel_rfl))
  t0 := Tryd.underlying0
  a0 := Tryd.isAgg0
  z0 := Tryd.sizeOf0
  v0 := Tryd.zeroValue0
  i0 := by kernel_rfl
  t3 := Tryd.underlying3
  a3 := Tryd.isAgg3
  z3 := Tryd.sizeOf3
  v3 := Tryd.zeroValue3
  i3 := by kernel_rfl
  t4 := Tryd.underlying4
  a4 := Tryd.isAgg4
  z4 := Tryd.sizeOf4
  v4 := Tryd.zeroValue4
  i4 := by kernel_rfl
  t5 := Tryd.underlying5
  a5 := Tryd.isAgg5
  z5 := Tryd.sizeOf5
  v5 := Tryd.zeroValue5
  i5 := by kernel_rfl
  t22 := Tryd.underlying52
  a22 := Tryd.isAgg52
  z22 := Tryd.sizeOf52
  v22 := Tryd.zeroValue52
  i22 := by kernel_rfl
  t25 := Tryd.underlying77
  a25 := Tryd.isAgg77
  z25 := Tryd.sizeOf77
  v25 := Tryd.zeroValue77
  i25 := by kernel_rfl
  t54 := Tryd.underlying88
  a54 := Tryd.isAgg88
  z54 := Tryd.sizeOf88
  g1 := by kernel_rfl }
def Tryd.lays122_ren : Go.Shelf.Ren := ⟨fun | 122 => 55 | 215 => 60 | n => n, fun | 3 => 3 | 4 => 4 | n => n, fun | n => n⟩
theorem Tryd.lays122 : Go.Proofs.Lays.n122 Tryd.prog Tryd.lays122_ren := {
  mixed := by kernel_rfl
  f122 := Tryd.func55.trans (congrArg some (by kernel_rfl))
  f215 := Tryd.func60.trans (congrArg some (by kernel_rfl))
  t3 := Tryd.underlying3
  a3 := Tryd.isAgg3
  z3 := Tryd.sizeOf3
  v3 := Tryd.zeroValue3
  t4 := Tryd.underlying4
  a4 := Tryd.isAgg4
  z4 := Tryd.sizeOf4
  v4 := Tryd.zeroValue4 }
def Tryd.laysCfI_ren : Go.Shelf.Ren := ⟨fun | 8 => 43 | 6 => 53 | n => n, fun | 22 => 35 | 23 => 3 | 25 => 72 | 4 => 4 | 3 => 3 | 0 => 0 | n => n, fun | n => n⟩
theorem Tryd.laysCfI : Go.Proofs.SlLaysH.n8 Tryd.prog Tryd.laysCfI_ren := {
  mixed := by kernel_rfl
  f6 := ⟨Tryd.f53.name, by decide, Tryd.func53.trans (congrArg some (by kernel_rfl))⟩
  f8 := ⟨Tryd.f43.name, by decide, Tryd.func43.trans (congrArg some (by kernel_rfl))⟩
  t0 := Tryd.underlying0
  a0 := Tryd.isAgg0
  z0 := Tryd.sizeOf0
  v0 := Tryd.zeroValue0
  t3 := Tryd.underlying3
  a3 := Tryd.isAgg3
  z3 := Tryd.sizeOf3
  v3 := Tryd.zeroValue3
  t4 := Tryd.underlying4
  a4 := Tryd.isAgg4
  z4 := Tryd.sizeOf4
  v4 := Tryd.zeroValue4
  t22 := Tryd.underlying35
  a22 := Tryd.isAgg35
  z22 := Tryd.sizeOf35
  v22 := Tryd.zeroValue35
  a23 := Tryd.isAgg3
  z23 := Tryd.sizeOf3
  t25 := Tryd.underlying72
  a25 := Tryd.isAgg72
  z25 := Tryd.sizeOf72
  v25 := Tryd.zeroValue72 }
def Tryd.laysCfU_ren : Go.Shelf.Ren := ⟨fun | 8 => 50 | 6 => 59 | n => n, fun | 22 => 48 | 23 => 52 | 25 => 81 | 4 => 4 | 3 => 3 | 0 => 0 | n => n, fun | n => n⟩
theorem Tryd.laysCfU : Go.Proofs.SlLaysH.n8 Tryd.prog Tryd.laysCfU_ren := {
  mixed := by kernel_rfl
  f6 := ⟨Tryd.f59.name, by decide, Tryd.func59.trans (congrArg some (by kernel_rfl))⟩
  f8 := ⟨Tryd.f50.name, by decide, Tryd.func50.trans (congrArg some (by kernel_rfl))⟩
  t0 := Tryd.underlying0
  a0 := Tryd.isAgg0
  z0 := Tryd.sizeOf0
  v0 := Tryd.zeroValue0
  t3 := Tryd.underlying3
  a3 := Tryd.isAgg3
  z3 := Tryd.sizeOf3
  v3 := Tryd.zeroValue3
  t4 := Tryd.underlying4
  a4 := Tryd.isAgg4
  z4 := Tryd.sizeOf4
  v4 := Tryd.zeroValue4
  t22 := Tryd.underlying48
  a22 := Tryd.isAgg48
  z22 := Tryd.sizeOf48
  v22 := Tryd.zeroValue48
  a23 := Tryd.isAgg52
  z23 := Tryd.sizeOf52
  t25 := Tryd.underlying81
  a25 := Tryd.isAgg81
  z25 := Tryd.sizeOf81
  v25 := Tryd.zeroValue81 }
end Go.Proofs
