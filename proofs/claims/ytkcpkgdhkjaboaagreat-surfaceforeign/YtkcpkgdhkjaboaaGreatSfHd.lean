/-
  Part of the proof of: The call of SurfaceForeign (libevolutionlaw09) returns true at every input.
  No condition: every input.
-/
import Derived.Test.YtkcpkgdhkjaboaaGreatProg
import Derived.KernelRfl
import Derived.Test.YtkcpkgdhkjaboaaGreatExE
set_option linter.unusedVariables false
set_option linter.unusedSimpArgs false
open Go Go.Ex Go.Proofs
namespace Go.Ex.B
def lf : Nat := 4000
noncomputable def env (g : Gam) : Env := ⟨Tryz.prog, fun f => Nat.beq f 331, g, lf⟩
end Go.Ex.B
