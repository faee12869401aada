/-
  Part of the proof of: The call of SurfaceHides (libevolutionlaw09) returns true at every input.
  No condition: every input.
-/
import Derived.Test.YtkcpkgdhkjaboaaGreatPre3
set_option linter.unusedVariables false
set_option linter.unusedSimpArgs false
open Go Go.Ex
namespace Go.Ex.B
set_option maxRecDepth 100000
theorem c3_10_f_t : isTrue (run 400 3 [.int .i64 10, .bool false, .bool true] s0) = true := by kernel_rfl
theorem c3_10_f_f : isTrue (run 400 3 [.int .i64 10, .bool false, .bool false] s0) = true := by kernel_rfl
theorem c3_11_t_t : isTrue (run 400 3 [.int .i64 11, .bool true, .bool true] s0) = true := by kernel_rfl
theorem c3_11_t_f : isTrue (run 400 3 [.int .i64 11, .bool true, .bool false] s0) = true := by kernel_rfl
theorem c3_11_f_t : isTrue (run 400 3 [.int .i64 11, .bool false, .bool true] s0) = true := by kernel_rfl
theorem c3_11_f_f : isTrue (run 400 3 [.int .i64 11, .bool false, .bool false] s0) = true := by kernel_rfl
end Go.Ex.B
