/-
  Part of the proof of: The call of SurfaceForeign (libevolutionlaw09) returns true at every input.
  No condition: every input.
-/
import Derived.Test.YtkcpkgdhkjaboaaGreatSfPre
set_option linter.unusedVariables false
set_option linter.unusedSimpArgs false
open Go Go.Ex
namespace Go.Ex.B
set_option maxRecDepth 100000
set_option linter.unusedVariables false
theorem c_2_false : isTrue (run 400 4 [.int .i64 2, (.bool false)] s0) = true := by kernel_rfl
theorem c_3_true : isTrue (run 400 4 [.int .i64 3, (.bool true)] s0) = true := by kernel_rfl
theorem c_3_false : isTrue (run 400 4 [.int .i64 3, (.bool false)] s0) = true := by kernel_rfl
theorem c_4_true : isTrue (run 400 4 [.int .i64 4, (.bool true)] s0) = true := by kernel_rfl
theorem c_4_false : isTrue (run 400 4 [.int .i64 4, (.bool false)] s0) = true := by kernel_rfl
end Go.Ex.B
