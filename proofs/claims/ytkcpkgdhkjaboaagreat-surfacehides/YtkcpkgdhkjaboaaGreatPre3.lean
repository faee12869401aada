/-
  Part of the proof of: The call of SurfaceHides (libevolutionlaw09) returns true at every input.
  No condition: every input.
-/
import Derived.Test.YtkcpkgdhkjaboaaGreatMd
set_option linter.unusedVariables false
set_option linter.unusedSimpArgs false
open Go Go.Ex
namespace Go.Ex.B
set_option maxRecDepth 100000
set_option linter.unusedVariables false
noncomputable def q3 (g : Gam) (a1 v46 v49 v53 : AV) (s54 : AS) : Res := bO (some v53) fun v55 => bO (some v46) fun v56 => bO (some v49) fun v57 => bO (some v55) fun v58 => bO (idxAddr v57 v58 1) fun v59 => bO (ld1 s54 v59) fun v60 => bO (binS .add v56 v60) fun v61 => bS (buildS s54 9 1 (rep 1 [(.str 1)]) [(0, 1, v61)]) fun v62 s63 => bC (g 6 [v62] s63) (fun v64 s65 => bO (idxAddr v64 (.int .i64 0) 9) fun v66 => bO (ldA s65 v66 9) fun v67 => bS (newBox s65 32 (.agg [(.int .i64 0), (.str 1), (.int .i64 0), .nilslice, .nilslice, .nilslice, .nilslice, .nilslice, .nilslice])) fun v68 s69 => bS (stV s69 v68 9 v67) fun v70 s71 => bO (ldA s71 v68 9) fun v72 => bC (g 7 [v72, .nilslice] s71) (fun v73 s74 => bO (some v73) fun v75 => bO (xtr v75 0) fun v76 => bO (xtr v75 1) fun v77 => bO (some v76) fun v78 => bO (some v77) fun v79 => bO (some v55) fun v80 => bO (binI .eql v80 (.int .i64 1)) fun v81 => bO (some v81) fun v82 => bO (gO v82 false (some v55)) fun v83 => bO (gO v82 false (binI .eql v83 (.int .i64 8))) fun v84 => bO (pickA v82 (.bool true) v84) fun v85 => bO (some v85) fun v86 => bO (gO v86 false (some v55)) fun v87 => bO (gO v86 false (binI .geq v87 (.int .i64 10))) fun v88 => bO (pickA v86 (.bool true) v88) fun v89 => bO (some v89) fun v90 => bO (fldAddr v68 0) fun v91 => bO (ld1 s74 v91) fun v92 => bO (binI .eql v92 (.int .i64 1)) fun v93 => bO (some v93) fun v94 => bO (gO v94 true (some v79)) fun v95 => bO (gO v94 true (binI .eql v95 (.int .i64 0))) fun v96 => bO (gO v94 true (some a1)) fun v97 => bO (gO v94 true (some v97)) fun v98 => bO (gO v98 false (some v90)) fun v99 => bO (gO v94 true (pickA v98 (.bool true) v99)) fun v100 => bO (gO v94 true (eqV false (eqB v96 v100))) fun v101 => bO (pickA v94 v101 (.bool false)) fun v102 => bO (some v102) fun v103 => bO (gO v103 true (some v79)) fun v104 => bO (gO v103 true (binI .eql v104 (.int .i64 0))) fun v105 => bO (gO v103 true (some v105)) fun v106 => bO (gO v106 false (some v79)) fun v107 => bO (gO v106 false (binI .eql v107 (.int .i64 17))) fun v108 => bO (gO v103 true (pickA v106 (.bool true) v108)) fun v109 => bO (pickA v103 v109 (.bool false)) fun v110 => bO (some v110) fun v111 => bC (gC v111 true (g 8 [] s74) s74) (fun v112 s113 => bO (pickA v111 v112 (.bool false)) fun v114 => bO (some v114) fun v115 => some (.ret, [v115], s113)) pnK) pnK) pnK
def s0 : AS := ⟨.nil, 0⟩
theorem run3 (A B C : AV) (s : AS) : run 400 3 [A, B, C] s = p3 (run 399) A B C s := by kernel_rfl
theorem pre3 (b1 b2 : Bool) : ∃ S v46 v49, ∀ A : AV, run 400 3 [A, .bool b1, .bool b2] s0 = finS [none] (bC (run 399 5 [A, .int .i64 12] S) (q3 (run 399) (.bool b1) v46 v49) pnK) := by
  cases b1 <;> cases b2
  all_goals
    apply Exists.intro
    apply Exists.intro
    apply Exists.intro
    intro A
    rw [run3]
    unfold p3
    exact rfl
theorem md_id {r n : Int} (h0 : 0 ≤ r) (h1 : r < n) : md r n = r := by
  unfold md
  rw [Int.tmod_eq_of_lt h0 h1]
  split <;> omega
theorem mod3 (a : Int) (b1 b2 : Bool) : run 400 3 [.int .i64 a, .bool b1, .bool b2] s0 = run 400 3 [.int .i64 (md a 12), .bool b1, .bool b2] s0 := by
  obtain ⟨S, u, v, h⟩ := pre3 b1 b2
  have hb := md_lt a 12 (by omega)
  rw [h, h, run5 a 12 (by omega) (by omega), run5 (md a 12) 12 (by omega) (by omega), md_id hb.1 hb.2]
def isTrue (r : Option (AEnd × AS)) : Bool := match r with
  | some (.ret (.bool b), _) => b
  | _ => false
theorem isTrue_inv {r : Option (AEnd × AS)} (h : isTrue r = true) : ∃ s, r = some (.ret (.bool true), s) := by
  unfold isTrue at h
  split at h
  · subst h
    exact ⟨_, rfl⟩
  · cases h
end Go.Ex.B
