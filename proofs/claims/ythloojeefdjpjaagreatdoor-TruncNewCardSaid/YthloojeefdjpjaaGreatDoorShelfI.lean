/- What the library's contracts ask of this program: strconv's number of digits. -/
import Derived.Shelf.LaysM
import Derived.Shelf.Strconv.Itoa1
import Derived.Test.YthloojeefdjpjaaGreatDoorProg
namespace Go.Proofs
open Go.Shelf
def Tryz.laysM284_ren : Go.Shelf.Ren := ⟨fun | 284 => 331 | 129 => 373 | 317 => 372 | 318 => 374 | n => n, fun | 53 => 146 | 3 => 3 | 212 => 448 | 0 => 0 | 4 => 4 | 46 => 372 | 5 => 5 | 9 => 9 | n => n, fun | 17 => 1 | n => n⟩
theorem Tryz.laysM284 : Go.Proofs.LaysM.n284 Tryz.prog Tryz.laysM284_ren := {
  mixed := by kernel_rfl
  f129 := Tryz.func373.trans (congrArg some (by kernel_rfl))
  f284 := Tryz.func331.trans (congrArg some (by kernel_rfl))
  f317 := Tryz.func372.trans (congrArg some (by kernel_rfl))
  f318 := Tryz.func374.trans (congrArg some (by kernel_rfl))
  t0 := Tryz.underlying0
  a0 := Tryz.isAgg0
  z0 := Tryz.sizeOf0
  v0 := Tryz.zeroValue0
  t3 := Tryz.underlying3
  a3 := Tryz.isAgg3
  z3 := Tryz.sizeOf3
  v3 := Tryz.zeroValue3
  t4 := Tryz.underlying4
  a4 := Tryz.isAgg4
  z4 := Tryz.sizeOf4
  v4 := Tryz.zeroValue4
  t5 := Tryz.underlying5
  a5 := Tryz.isAgg5
  z5 := Tryz.sizeOf5
  v5 := Tryz.zeroValue5
  t9 := Tryz.underlying9
  a9 := Tryz.isAgg9
  z9 := Tryz.sizeOf9
  v9 := Tryz.zeroValue9
  t46 := Tryz.underlying372
  a46 := Tryz.isAgg372
  z46 := Tryz.sizeOf372
  v46 := Tryz.zeroValue372
  t53 := Tryz.underlying146
  a53 := Tryz.isAgg146
  z53 := Tryz.sizeOf146
  v53 := Tryz.zeroValue146
  t212 := Tryz.underlying448
  a212 := Tryz.isAgg448
  z212 := Tryz.sizeOf448
  v212 := Tryz.zeroValue448
  g17 := by kernel_rfl
  i0 := by kernel_rfl
  i3 := by kernel_rfl
  i4 := by kernel_rfl
  i5 := by kernel_rfl
  i9 := by kernel_rfl
  i46 := by kernel_rfl
  i53 := by kernel_rfl
  i212 := by kernel_rfl
  m17 := by kernel_rfl }
/-- the table of the powers of ten -/
def Tryz.powG : Nat := 1
end Go.Proofs
