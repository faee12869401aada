/-
  Part of the proof of: The call of CheckText (libevolutionlaw07) returns true at every input.
  No condition: every input.
-/
import Derived.Test.YtkjhipeaaffncaaGreatAw
set_option linter.unusedVariables false
set_option linter.unusedSimpArgs false
open Go Go.Ex
namespace Go.Ex.B
set_option maxRecDepth 100000
set_option linter.unusedVariables false
def md (a n : Int) : Int := if a.tmod n < 0 then a.tmod n + n else a.tmod n
theorem md_lt (a n : Int) (h : 0 < n) : 0 ≤ md a n ∧ md a n < n := by
  unfold md
  have h1 := Int.tmod_lt_of_pos a h
  have h2 : -n < a.tmod n := by
    have := Int.lt_tmod_of_pos a h
    omega
  split <;> omega
theorem wrap_id {x : Int} (h1 : -1000000 ≤ x) (h2 : x ≤ 1000000) : IntKind.wrap .i64 x = x := by
  unfold IntKind.wrap
  simp [IntKind.bits, IntKind.signed]
  omega
theorem md_eq (g : Gam) (a n : Int) (h1 : 1 ≤ n) (h2 : n ≤ 1000) (s : AS) : p4 g (.int .i64 a) (.int .i64 n) s = some (.ret (.int .i64 (md a n)), s) := by
  have h0 : ¬ n = 0 := by omega
  have h3 : ¬ n < 1 := by omega
  have hb := md_lt a n (by omega)
  have e1 : ∀ x y, lssI x y = binI0 .lss x y := fun x y => binI_eq .lss x y
  have e2 : ∀ x y, addI x y = binI0 .add x y := fun x y => binI_eq .add x y
  unfold p4
  simp only [bO, e1, e2, binI_eq, binI0, h3, h0, decide_true, decide_false, cnd, bJ, nth]
  unfold md at hb ⊢
  by_cases hc : a.tmod n < 0
  · rw [if_pos hc] at hb ⊢
    simp [hc, nth, finS, resLS, resOfS, resT, wrap_id (x := a.tmod n + n) (by omega) (by omega)]
  · rw [if_neg hc]
    simp [hc, nth, finS, resLS, resOfS, resT]
theorem runMod (a n : Int) (h1 : 1 ≤ n) (h2 : n ≤ 1000) (s : AS) : runM 399 4 [.int .i64 a, .int .i64 n] s = some (.ret (.int .i64 (md a n)), s) := by
  have : runM 399 4 [.int .i64 a, .int .i64 n] s = p4 (runM 398) (.int .i64 a) (.int .i64 n) s := by kernel_rfl
  rw [this, md_eq _ _ _ h1 h2]
theorem md_id {r n : Int} (h0 : 0 ≤ r) (h1 : r < n) : md r n = r := by
  unfold md
  rw [Int.tmod_eq_of_lt h0 h1]
  split <;> omega
end Go.Ex.B
