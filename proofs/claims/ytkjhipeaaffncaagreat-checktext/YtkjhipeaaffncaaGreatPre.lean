/-
  Part of the proof of: The call of CheckText (libevolutionlaw07) returns true at every input.
  No condition: every input.
-/
import Derived.Test.YtkjhipeaaffncaaGreatMd
set_option linter.unusedVariables false
set_option linter.unusedSimpArgs false
open Go Go.Ex
namespace Go.Ex.B
set_option maxRecDepth 100000
set_option linter.unusedVariables false
noncomputable def q3 (g : Gam) (a1 v22 v25 : AV) (s26 : AS) : Res := bO (idxAddr v22 v25 2) fun v27 => bO (ldA s26 v27 2) fun v28 => bS (newBox s26 24 (.agg [(.str 1), (.int .i64 0)])) fun v29 s30 => bS (stV s30 v29 2 v28) fun v31 s32 => bX 0 (bJ (iter lf (fun w33 s34 => bO (binI .rem a1 (.int .u8 9)) fun v35 => bO (cvtI .i64 v35) fun v36 => bO (lssI (nth w33 1) v36) fun v37 => bJ (cnd v37 (some (.normal, [], s34)) (some ((.exit 0), [], s34))) (fun w38 s39 => bX 1 (bO (binS .add (nth w33 0) (.str 288)) fun v40 => some (.normal, [v40], s39)) (fun w41 s42 => bO (addI (nth w33 1) (.int .i64 1)) fun v43 => some (.normal, [(nth w41 0), v43], s42)) (fun e w41 s42 => some (e, [(nth w41 0), (nth w33 1)], s42))) (fun e w38 s39 => some (e, [(nth w33 0), (nth w33 1)], s39))) [(.str 1), (.int .i64 0)] s32) (fun _ _ => none) (fun e w33 s34 => some (e, [(nth w33 0)], s34))) (fun w44 s45 => bO (binS .add (.str 1978491629820155970833508541916239438268936399870870938020963) (nth w44 0)) fun v46 => bO (binS .add v46 (.str 6427939510417481644529788532396392262837106022)) fun v47 => bO (fldAddr v29 0) fun v48 => bO (ld1 s45 v48) fun v49 => bO (binS .add v47 v49) fun v50 => bO (binS .add v50 (.str 315)) fun v51 => bS (buildS s45 9 2 (rep 2 [(.str 1)]) [(0, 1, (.str 502686085505784157230281523986114075986231974862415074837007541811818437823218294600997559915434032612689093906985020286472322371668140284491244166771189841209282265436161223421204850904528340038779474479530380139589551720233468201242129572526650227905953898662173437522685305184564617579625568474897108623273061808878483146868673782376141391414028894796738776951047041273393670656590481151945755223730539837430165258200698691423489437157936293870116186405286448105808155538440864700647082330011849314273088242220605224186045487204143824732013115896456814624495371832283975802580738664812)), (1, 1, v51)]) fun v52 s53 => bC (g 5 [v52] s53) (fun v54 s55 => bO (lenL v54) fun v56 => bO (neqI v56 (.int .i64 2)) fun v57 => bO (gO v57 false (some v54)) fun v58 => bO (gO v57 false (idxAddr v58 (.int .i64 1) 9)) fun v59 => bO (gO v57 false (fldAddr v59 0)) fun v60 => bO (gO v57 false (ld1 s55 v60)) fun v61 => bO (gO v57 false (neqI v61 (.int .i64 2))) fun v62 => bO (pickA v57 (.bool true) v62) fun v63 => bJ (cnd v63 (some (.ret, [(.bool false)], s55)) (some (.normal, [(.bool false)], s55))) (fun w64 s65 => bO (some v54) fun v66 => bO (idxAddr v66 (.int .i64 1) 9) fun v67 => bO (ldA s65 v67 9) fun v68 => bO (some v54) fun v69 => bO (cutSl 9 v69 none (some (.int .i64 1)) none) fun v70 => bS (newBox s65 37 (.agg [(.int .i64 0), (.str 1), (.int .i64 0), .nilslice, .nilslice, .nilslice, .nilslice, .nilslice, .nilslice])) fun v71 s72 => bC (g 6 [v68, v70] (AS.reserve s65)) (fun v73 s74 => bO (some v73) fun v75 => bO (xtr v75 0) fun v76 => bO (xtr v75 1) fun v77 => bO (xtr v75 2) fun v78 => bS (stV (AS.put s74 (AS.n s65) (AS.get s72 (AS.n s65))) v71 9 v76) fun v79 s80 => bO (some v77) fun v81 => bO (some v78) fun v82 => bO (some (nth w44 0)) fun v83 => bO (binS .add (.str 1978491629820155970833508541916239438268936399870870938020963) v83) fun v84 => bO (binS .add v84 (.str 6427939510417481644529788532396392262837106022)) fun v85 => bO (fldAddr v29 0) fun v86 => bO (ld1 s80 v86) fun v87 => bO (binS .add v85 v87) fun v88 => bO (binS .add v88 (.str 315)) fun v89 => bO (some v54) fun v90 => bO (cutSl 9 v90 none (some (.int .i64 1)) none) fun v91 => bS (newBox s80 37 (.agg [(.int .i64 0), (.str 1), (.int .i64 0), .nilslice, .nilslice, .nilslice, .nilslice, .nilslice, .nilslice])) fun v92 s93 => bC (g 7 [v89, v91] (AS.reserve s80)) (fun v94 s95 => bO (some v94) fun v96 => bO (xtr v96 0) fun v97 => bO (xtr v96 1) fun v98 => bO (xtr v96 2) fun v99 => bS (stV (AS.put s95 (AS.n s80) (AS.get s93 (AS.n s80))) v92 9 v97) fun v100 s101 => bO (some v98) fun v102 => bO (some v99) fun v103 => bO (fldAddr v29 1) fun v104 => bO (ld1 s101 v104) fun v105 => bO (eqlI v82 v105) fun v106 => bO (gO v106 true (some v82)) fun v107 => bO (gO v106 true (eqlI v107 (.int .i64 0))) fun v108 => bO (gO v106 true (some v108)) fun v109 => bO (gO v109 false (some v81)) fun v110 => bO (gO v109 false (some (nth w44 0))) fun v111 => bO (gO v109 false (lenS v111)) fun v112 => bO (gO v109 false (addI (.int .i64 43) v112)) fun v113 => bO (gO v109 false (geqI v110 v113)) fun v114 => bO (gO v109 false (some v114)) fun v115 => bO (gO v115 true (some v102)) fun v116 => bO (gO v115 true (some v81)) fun v117 => bO (gO v115 true (eqlI v116 v117)) fun v118 => bO (gO v109 false (pickA v115 v118 (.bool false))) fun v119 => bO (gO v109 false (some v119)) fun v120 => bO (gO v120 true (some v103)) fun v121 => bO (gO v120 true (some v82)) fun v122 => bO (gO v120 true (eqlI v121 v122)) fun v123 => bO (gO v109 false (pickA v120 v123 (.bool false))) fun v124 => bO (gO v106 true (pickA v109 (.bool true) v124)) fun v125 => bO (pickA v106 v125 (.bool false)) fun v126 => bC (gC v126 true (g 8 [] s101) s101) (fun v127 s128 => bO (pickA v126 v127 (.bool false)) fun v129 => some (.ret, [v129], s128)) pnK) pnK) pnK) (fun e w64 s65 => some (e, [(nth w64 0)], s65))) pnK) (fun e w44 s45 => some (e, [(.bool false)], s45))
theorem runF (A0 A1 : AV) (s : AS) : runM 400 3 [A0, A1] s = p3 (runM 399) A0 A1 s := by kernel_rfl
theorem pre (b1 : Int) : ∃ S v22, ∀ A : AV, runM 400 3 [A, (.int .u8 b1)] s0 = finS [none] (bC (runM 399 4 [A, .int .i64 22] S) (q3 (runM 399) (.int .u8 b1) v22) pnK) := by
  all_goals
    apply Exists.intro
    apply Exists.intro
    intro A
    rw [runF]
    unfold p3
    exact rfl
theorem modF (a : Int) (b1 : Int) : runM 400 3 [.int .i64 a, (.int .u8 b1)] s0 = runM 400 3 [.int .i64 (md a 22), (.int .u8 b1)] s0 := by
  obtain ⟨S, v22, h⟩ := pre b1
  have hb := md_lt a 22 (by omega)
  rw [h, h, runMod a 22 (by omega) (by omega), runMod (md a 22) 22 (by omega) (by omega), md_id hb.1 hb.2]
theorem modN (a n : Int) (h0 : 0 ≤ n) : runM 400 3 [.int .i64 a, .int .u8 n] s0 = runM 400 3 [.int .i64 a, .int .u8 (n.tmod 9)] s0 := by
  have h : binI .rem (.int .u8 n) (.int .u8 9) = binI .rem (.int .u8 (n.tmod 9)) (.int .u8 9) := by
    have h1 : (n.tmod 9).tmod 9 = n.tmod 9 := by
      rw [Int.tmod_eq_emod_of_nonneg h0]
      exact Int.tmod_eq_of_lt (by omega) (by omega)
    simp [binI, binI0, h1]
  rw [runF, runF]
  unfold p3
  simp only [h]
end Go.Ex.B
