/-
  Part of the proof of: The call of SurfaceForeign (libevolutionlaw09) returns true at every input.
  No condition: every input.
-/
import Derived.Test.YtkcpkgdhkjaboaaGreatSfMd
set_option linter.unusedVariables false
set_option linter.unusedSimpArgs false
open Go Go.Ex
namespace Go.Ex.B
set_option maxRecDepth 100000
set_option linter.unusedVariables false
noncomputable def q4 (g : Gam) (a1 v0 v17 v20 v23 v27 : AV) (s28 : AS) : Res := bO (some v27) fun v29 => bO (some v17) fun v30 => bO (some v20) fun v31 => bO (some v29) fun v32 => bO (idxAddr v31 v32 1) fun v33 => bO (ld1 s28 v33) fun v34 => bO (binS .add v30 v34) fun v35 => bS (buildS s28 9 1 (rep 1 [(.str 1)]) [(0, 1, v35)]) fun v36 s37 => bC (g 6 [v36] s37) (fun v38 s39 => bO (idxAddr v38 (.int .i64 0) 9) fun v40 => bO (ldA s39 v40 9) fun v41 => bS (newBox s39 32 (.agg [(.int .i64 0), (.str 1), (.int .i64 0), .nilslice, .nilslice, .nilslice, .nilslice, .nilslice, .nilslice])) fun v42 s43 => bS (stV s43 v42 9 v41) fun v44 s45 => bO (ldA s45 v42 9) fun v46 => bC (g 7 [v46, .nilslice] s45) (fun v47 s48 => bO (some v47) fun v49 => bO (xtr v49 0) fun v50 => bO (xtr v49 1) fun v51 => bO (some v50) fun v52 => bO (some v51) fun v53 => bO (some v23) fun v54 => bO (some v29) fun v55 => bO (idxAddr v54 v55 1) fun v56 => bO (ld1 s48 v56) fun v57 => bO (some v57) fun v58 => bO (some a1) fun v59 => bJ (cnd v59 (bO (some (.int .i64 0)) fun v60 => some (.normal, [v60], s48)) (some (.normal, [v58], s48))) (fun w61 s62 => bO (fldAddr v42 0) fun v63 => bO (ld1 s62 v63) fun v64 => bO (binI .eql v64 (.int .i64 1)) fun v65 => bO (some v65) fun v66 => bO (gO v66 true (some v53)) fun v67 => bO (gO v66 true (some (nth w61 0))) fun v68 => bO (gO v66 true (binI .eql v67 v68)) fun v69 => bO (pickA v66 v69 (.bool false)) fun v70 => bO (some v70) fun v71 => bC (gC v71 true (g 8 [] s62) s62) (fun v72 s73 => bO (pickA v71 v72 (.bool false)) fun v74 => bO (some v74) fun v75 => some (.ret, [v75], s73)) pnK) (fun e w61 s62 => some (e, [v0], s62))) pnK) pnK
theorem runF (A0 A1 : AV) (s : AS) : run 400 4 [A0, A1] s = p4 (run 399) A0 A1 s := by kernel_rfl
theorem pre (b1 : Bool) : ∃ S v0 v17 v20 v23, ∀ A : AV, run 400 4 [A, (.bool b1)] s0 = finS [none] (bC (run 399 5 [A, .int .i64 5] S) (q4 (run 399) (.bool b1) v0 v17 v20 v23) pnK) := by
  cases b1
  all_goals
    apply Exists.intro
    apply Exists.intro
    apply Exists.intro
    apply Exists.intro
    apply Exists.intro
    intro A
    rw [runF]
    unfold p4
    exact rfl
theorem modF (a : Int) (b1 : Bool) : run 400 4 [.int .i64 a, (.bool b1)] s0 = run 400 4 [.int .i64 (md a 5), (.bool b1)] s0 := by
  obtain ⟨S, v0, v17, v20, v23, h⟩ := pre b1
  have hb := md_lt a 5 (by omega)
  rw [h, h, runMod a 5 (by omega) (by omega), runMod (md a 5) 5 (by omega) (by omega), md_id hb.1 hb.2]
end Go.Ex.B
