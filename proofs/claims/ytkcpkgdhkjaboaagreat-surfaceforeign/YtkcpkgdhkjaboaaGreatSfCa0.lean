/-
  Part of the proof of: The call of SurfaceForeign (libevolutionlaw09) returns true at every input.
  No condition: every input.
-/
import Derived.Test.YtkcpkgdhkjaboaaGreatSfPre
set_option linter.unusedVariables false
set_option linter.unusedSimpArgs false
open Go Go.Ex
namespace Go.Ex.B
set_option maxRecDepth 100000
set_option linter.unusedVariables false
theorem c_0_true : isTrue (run 400 4 [.int .i64 0, (.bool true)] s0) = true := by kernel_rfl
theorem c_0_false : isTrue (run 400 4 [.int .i64 0, (.bool false)] s0) = true := by kernel_rfl
theorem c_1_true : isTrue (run 400 4 [.int .i64 1, (.bool true)] s0) = true := by kernel_rfl
theorem c_1_false : isTrue (run 400 4 [.int .i64 1, (.bool false)] s0) = true := by kernel_rfl
theorem c_2_true : isTrue (run 400 4 [.int .i64 2, (.bool true)] s0) = true := by kernel_rfl
end Go.Ex.B
