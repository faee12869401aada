/-
  Part of the proof of: The call of CheckText (libevolutionlaw07) returns true at every input.
  No condition: every input.
-/
import Derived.Test.YtkjhipeaaffncaaGreatPre
set_option linter.unusedVariables false
set_option linter.unusedSimpArgs false
open Go Go.Ex
namespace Go.Ex.B
set_option maxRecDepth 100000
set_option linter.unusedVariables false
theorem c_21_0 : isTrue (runM 400 3 [.int .i64 21, (.int .u8 0)] s0) = true := by kernel_rfl
theorem c_21_1 : isTrue (runM 400 3 [.int .i64 21, (.int .u8 1)] s0) = true := by kernel_rfl
theorem c_21_2 : isTrue (runM 400 3 [.int .i64 21, (.int .u8 2)] s0) = true := by kernel_rfl
theorem c_21_3 : isTrue (runM 400 3 [.int .i64 21, (.int .u8 3)] s0) = true := by kernel_rfl
theorem c_21_4 : isTrue (runM 400 3 [.int .i64 21, (.int .u8 4)] s0) = true := by kernel_rfl
theorem c_21_5 : isTrue (runM 400 3 [.int .i64 21, (.int .u8 5)] s0) = true := by kernel_rfl
theorem c_21_6 : isTrue (runM 400 3 [.int .i64 21, (.int .u8 6)] s0) = true := by kernel_rfl
theorem c_21_7 : isTrue (runM 400 3 [.int .i64 21, (.int .u8 7)] s0) = true := by kernel_rfl
theorem c_21_8 : isTrue (runM 400 3 [.int .i64 21, (.int .u8 8)] s0) = true := by kernel_rfl
end Go.Ex.B
