/-
  Part of the proof of: The call of SurfaceForeign (libevolutionlaw09) returns true at every input.
  No condition: every input.
-/
import Derived.Test.YtkcpkgdhkjaboaaGreatSfSnd
set_option linter.unusedVariables false
set_option linter.unusedSimpArgs false
open Go Go.Ex
namespace Go.Ex.B
set_option maxRecDepth 100000
set_option linter.unusedVariables false
def md (a n : Int) : Int := if a.tmod n < 0 then a.tmod n + n else a.tmod n
theorem md_lt (a n : Int) (h : 0 < n) : 0 ≤ md a n ∧ md a n < n := by
  unfold md
  have h1 := Int.tmod_lt_of_pos a h
  have h2 : -n < a.tmod n := by
    have := Int.lt_tmod_of_pos a h
    omega
  split <;> omega
theorem wrap_id {x : Int} (h1 : -1000000 ≤ x) (h2 : x ≤ 1000000) : IntKind.wrap .i64 x = x := by
  unfold IntKind.wrap
  simp [IntKind.bits, IntKind.signed]
  omega
theorem md_eq (g : Gam) (a n : Int) (h1 : 1 ≤ n) (h2 : n ≤ 1000) (s : AS) : p5 g (.int .i64 a) (.int .i64 n) s = some (.ret (.int .i64 (md a n)), s) := by
  have h0 : ¬ n = 0 := by omega
  have h3 : ¬ n < 1 := by omega
  have hb := md_lt a n (by omega)
  unfold p5
  simp only [bO, binI, h3, h0, decide_true, decide_false, cnd, bJ, nth]
  unfold md at hb ⊢
  by_cases hc : a.tmod n < 0
  · rw [if_pos hc] at hb ⊢
    simp [hc, nth, finS, resLS, resOfS, resT, wrap_id (x := a.tmod n + n) (by omega) (by omega)]
  · rw [if_neg hc]
    simp [hc, nth, finS, resLS, resOfS, resT]
theorem runMod (a n : Int) (h1 : 1 ≤ n) (h2 : n ≤ 1000) (s : AS) : run 399 5 [.int .i64 a, .int .i64 n] s = some (.ret (.int .i64 (md a n)), s) := by
  have : run 399 5 [.int .i64 a, .int .i64 n] s = p5 (run 398) (.int .i64 a) (.int .i64 n) s := by kernel_rfl
  rw [this, md_eq _ _ _ h1 h2]
theorem md_id {r n : Int} (h0 : 0 ≤ r) (h1 : r < n) : md r n = r := by
  unfold md
  rw [Int.tmod_eq_of_lt h0 h1]
  split <;> omega
def s0 : AS := ⟨.nil, 0⟩
def isTrue (r : Option (AEnd × AS)) : Bool := match r with
  | some (.ret (.bool b), _) => b
  | _ => false
theorem isTrue_inv {r : Option (AEnd × AS)} (h : isTrue r = true) : ∃ s, r = some (.ret (.bool true), s) := by
  unfold isTrue at h
  split at h
  · subst h
    exact ⟨_, rfl⟩
  · cases h
end Go.Ex.B
