/-
  Part of the proof of: The call of CheckText (libevolutionlaw07) returns true at every input.
  No condition: every input.
-/
import Derived.Test.YtkjhipeaaffncaaGreatProg
import Derived.KernelRfl
import Derived.Test.YtkjhipeaaffncaaGreatExE
set_option linter.unusedVariables false
set_option linter.unusedSimpArgs false
open Go Go.Ex Go.Proofs
namespace Go.Ex.B
def lf : Nat := 4000
noncomputable def env (g : Gam) : Env := ⟨Tryz.prog, fun f => Nat.beq f 455, g, lf⟩
end Go.Ex.B
