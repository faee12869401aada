/-
  Part of the proof of: The call of CheckText (libevolutionlaw07) returns true at every input.
  No condition: every input.
-/
import Derived.Shelf.Strings.Search1
import Derived.Shelf.Strings.Search2
import Derived.Shelf.Strings.Search3
import Derived.Shelf.LaysM
import Derived.Shelf.Strings.Shaped
import Derived.Test.YtkjhipeaaffncaaGreatProg
set_option linter.unusedVariables false
set_option linter.unusedSimpArgs false
namespace Go.Proofs
open Go.Shelf
def Tryz.lays144_ren : Go.Shelf.Ren := ⟨fun | 144 => 333 | 143 => 389 | 219 => 390 | 217 => 430 | 225 => 431 | 224 => 432 | 267 => 433 | 266 => 455 | 314 => 456 | n => n, fun | 9 => 9 | 4 => 4 | 3 => 3 | 5 => 5 | 46 => 385 | 146 => 397 | 51 => 396 | n => n, fun | 1 => 0 | n => n⟩
theorem Tryz.lays144 : Go.Proofs.Lays.n144 Tryz.prog Tryz.lays144_ren := {
  mixed := by kernel_rfl
  f143 := Tryz.func389.trans (congrArg some (by kernel_rfl))
  f144 := Tryz.func333.trans (congrArg some (by kernel_rfl))
  f217 := Tryz.func430.trans (congrArg some (by kernel_rfl))
  f219 := Tryz.func390.trans (congrArg some (by kernel_rfl))
  f224 := Tryz.func432.trans (congrArg some (by kernel_rfl))
  f225 := Tryz.func431.trans (congrArg some (by kernel_rfl))
  f266 := Tryz.func455.trans (congrArg some (by kernel_rfl))
  f267 := Tryz.func433.trans (congrArg some (by kernel_rfl))
  f314 := Tryz.func456.trans (congrArg some (by kernel_rfl))
  t3 := Tryz.underlying3
  a3 := Tryz.isAgg3
  z3 := Tryz.sizeOf3
  v3 := Tryz.zeroValue3
  t4 := Tryz.underlying4
  a4 := Tryz.isAgg4
  z4 := Tryz.sizeOf4
  v4 := Tryz.zeroValue4
  t5 := Tryz.underlying5
  a5 := Tryz.isAgg5
  z5 := Tryz.sizeOf5
  v5 := Tryz.zeroValue5
  t9 := Tryz.underlying9
  a9 := Tryz.isAgg9
  z9 := Tryz.sizeOf9
  v9 := Tryz.zeroValue9
  t46 := Tryz.underlying385
  a46 := Tryz.isAgg385
  z46 := Tryz.sizeOf385
  v46 := Tryz.zeroValue385
  t51 := Tryz.underlying396
  a51 := Tryz.isAgg396
  z51 := Tryz.sizeOf396
  v51 := Tryz.zeroValue396
  t146 := Tryz.underlying397
  a146 := Tryz.isAgg397
  z146 := Tryz.sizeOf397
  v146 := Tryz.zeroValue397
  g1 := by kernel_rfl }
def Tryz.laysM144_ren : Go.Shelf.Ren := ⟨fun | 144 => 333 | 143 => 389 | 219 => 390 | 217 => 430 | 225 => 431 | 224 => 432 | 267 => 433 | 266 => 455 | 314 => 456 | n => n, fun | 9 => 9 | 4 => 4 | 3 => 3 | 5 => 5 | 46 => 385 | 146 => 397 | 51 => 396 | n => n, fun | 1 => 0 | n => n⟩
theorem Tryz.laysM144 : Go.Proofs.LaysM.n144 Tryz.prog Tryz.laysM144_ren := {
  mixed := by kernel_rfl
  f143 := Tryz.func389.trans (congrArg some (by kernel_rfl))
  f144 := Tryz.func333.trans (congrArg some (by kernel_rfl))
  f217 := Tryz.func430.trans (congrArg some (by kernel_rfl))
  f219 := Tryz.func390.trans (congrArg some (by kernel_rfl))
  f224 := Tryz.func432.trans (congrArg some (by kernel_rfl))
  f225 := Tryz.func431.trans (congrArg some (by kernel_rfl))
  f266 := Tryz.func455.trans (congrArg some (by kernel_rfl))
  f267 := Tryz.func433.trans (congrArg some (by kernel_rfl))
  f314 := Tryz.func456.trans (congrArg some (by kernel_rfl))
  t3 := Tryz.underlying3
  a3 := Tryz.isAgg3
  z3 := Tryz.sizeOf3
  v3 := Tryz.zeroValue3
  t4 := Tryz.underlying4
  a4 := Tryz.isAgg4
  z4 := Tryz.sizeOf4
  v4 := Tryz.zeroValue4
  t5 := Tryz.underlying5
  a5 := Tryz.isAgg5
  z5 := Tryz.sizeOf5
  v5 := Tryz.zeroValue5
  t9 := Tryz.underlying9
  a9 := Tryz.isAgg9
  z9 := Tryz.sizeOf9
  v9 := Tryz.zeroValue9
  t46 := Tryz.underlying385
  a46 := Tryz.isAgg385
  z46 := Tryz.sizeOf385
  v46 := Tryz.zeroValue385
  t51 := Tryz.underlying396
  a51 := Tryz.isAgg396
  z51 := Tryz.sizeOf396
  v51 := Tryz.zeroValue396
  t146 := Tryz.underlying397
  a146 := Tryz.isAgg397
  z146 := Tryz.sizeOf397
  v146 := Tryz.zeroValue397
  g1 := by kernel_rfl
  i3 := by kernel_rfl
  i4 := by kernel_rfl
  i5 := by kernel_rfl
  i9 := by kernel_rfl
  i46 := by kernel_rfl
  i51 := by kernel_rfl
  i146 := by kernel_rfl
  m1 := by kernel_rfl
  s1_3 := fun w h => Go.Proofs.cell_of_shapedOpen_int (zero := #[.int .i64 0]) (t := 3) h (of_decide_eq_true (by kernel_rfl)) (by kernel_rfl) rfl (by kernel_rfl) (by kernel_rfl) Tryz.underlying3 }
end Go.Proofs
