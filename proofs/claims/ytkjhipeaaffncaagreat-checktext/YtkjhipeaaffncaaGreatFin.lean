/-
  The call of CheckText (libevolutionlaw07) returns true at every input.
  No condition: every input.
-/
import Derived.Test.YtkjhipeaaffncaaGreatRows
import Derived.WalkKit
import Derived.ProofKit
import Derived.OpenShut
import Derived.HandedShaped
import Derived.Below
import Derived.Test.YtkjhipeaaffncaaGreatPre
import Derived.Test.YtkjhipeaaffncaaGreatFacts
import Derived.Test.YtkjhipeaaffncaaGreatCa0
import Derived.Test.YtkjhipeaaffncaaGreatCa1
import Derived.Test.YtkjhipeaaffncaaGreatCa2
import Derived.Test.YtkjhipeaaffncaaGreatCa3
import Derived.Test.YtkjhipeaaffncaaGreatCa4
import Derived.Test.YtkjhipeaaffncaaGreatCa5
import Derived.Test.YtkjhipeaaffncaaGreatCa6
import Derived.Test.YtkjhipeaaffncaaGreatCa7
import Derived.Test.YtkjhipeaaffncaaGreatCa8
import Derived.Test.YtkjhipeaaffncaaGreatCa9
import Derived.Test.YtkjhipeaaffncaaGreatCa10
import Derived.Test.YtkjhipeaaffncaaGreatCa11
import Derived.Test.YtkjhipeaaffncaaGreatCa12
import Derived.Test.YtkjhipeaaffncaaGreatCa13
import Derived.Test.YtkjhipeaaffncaaGreatCa14
import Derived.Test.YtkjhipeaaffncaaGreatCa15
import Derived.Test.YtkjhipeaaffncaaGreatCa16
import Derived.Test.YtkjhipeaaffncaaGreatCa17
import Derived.Test.YtkjhipeaaffncaaGreatCa18
import Derived.Test.YtkjhipeaaffncaaGreatCa19
import Derived.Test.YtkjhipeaaffncaaGreatCa20
import Derived.Test.YtkjhipeaaffncaaGreatCa21
set_option linter.unusedVariables false
set_option linter.unusedSimpArgs false
namespace Go.Proofs.YtkjhipeaaffncaaGreat.checkText
open Go.ChangeShapes Go.WideShapes Go.ChangeAt Go.RowKit
set_option linter.unusedVariables false      -- a walk need not use every 'w<i>' (that an integer argument fits its kind)

theorem own : ownKnob Tryz.prog.godebug = none := by kernel_rfl

open Go.Ex Go.Ex.B in
theorem cases12 (k : Int) (h0 : 0 ≤ k) (h1 : k < 22) (b1 : Int) (h0b1 : 0 ≤ b1) (h1b1 : b1 < 9) : isTrue (runM 400 3 [.int .i64 k, (.int .u8 b1)] s0) = true := by
  have hk : k = 0 ∨ k = 1 ∨ k = 2 ∨ k = 3 ∨ k = 4 ∨ k = 5 ∨ k = 6 ∨ k = 7 ∨ k = 8 ∨ k = 9 ∨ k = 10 ∨ k = 11 ∨ k = 12 ∨ k = 13 ∨ k = 14 ∨ k = 15 ∨ k = 16 ∨ k = 17 ∨ k = 18 ∨ k = 19 ∨ k = 20 ∨ k = 21 := by omega
  have hb1 : b1 = 0 ∨ b1 = 1 ∨ b1 = 2 ∨ b1 = 3 ∨ b1 = 4 ∨ b1 = 5 ∨ b1 = 6 ∨ b1 = 7 ∨ b1 = 8 := by omega
  rcases hk with rfl | rfl | rfl | rfl | rfl | rfl | rfl | rfl | rfl | rfl | rfl | rfl | rfl | rfl | rfl | rfl | rfl | rfl | rfl | rfl | rfl | rfl <;> rcases hb1 with rfl | rfl | rfl | rfl | rfl | rfl | rfl | rfl | rfl
  · exact c_0_0
  · exact c_0_1
  · exact c_0_2
  · exact c_0_3
  · exact c_0_4
  · exact c_0_5
  · exact c_0_6
  · exact c_0_7
  · exact c_0_8
  · exact c_1_0
  · exact c_1_1
  · exact c_1_2
  · exact c_1_3
  · exact c_1_4
  · exact c_1_5
  · exact c_1_6
  · exact c_1_7
  · exact c_1_8
  · exact c_2_0
  · exact c_2_1
  · exact c_2_2
  · exact c_2_3
  · exact c_2_4
  · exact c_2_5
  · exact c_2_6
  · exact c_2_7
  · exact c_2_8
  · exact c_3_0
  · exact c_3_1
  · exact c_3_2
  · exact c_3_3
  · exact c_3_4
  · exact c_3_5
  · exact c_3_6
  · exact c_3_7
  · exact c_3_8
  · exact c_4_0
  · exact c_4_1
  · exact c_4_2
  · exact c_4_3
  · exact c_4_4
  · exact c_4_5
  · exact c_4_6
  · exact c_4_7
  · exact c_4_8
  · exact c_5_0
  · exact c_5_1
  · exact c_5_2
  · exact c_5_3
  · exact c_5_4
  · exact c_5_5
  · exact c_5_6
  · exact c_5_7
  · exact c_5_8
  · exact c_6_0
  · exact c_6_1
  · exact c_6_2
  · exact c_6_3
  · exact c_6_4
  · exact c_6_5
  · exact c_6_6
  · exact c_6_7
  · exact c_6_8
  · exact c_7_0
  · exact c_7_1
  · exact c_7_2
  · exact c_7_3
  · exact c_7_4
  · exact c_7_5
  · exact c_7_6
  · exact c_7_7
  · exact c_7_8
  · exact c_8_0
  · exact c_8_1
  · exact c_8_2
  · exact c_8_3
  · exact c_8_4
  · exact c_8_5
  · exact c_8_6
  · exact c_8_7
  · exact c_8_8
  · exact c_9_0
  · exact c_9_1
  · exact c_9_2
  · exact c_9_3
  · exact c_9_4
  · exact c_9_5
  · exact c_9_6
  · exact c_9_7
  · exact c_9_8
  · exact c_10_0
  · exact c_10_1
  · exact c_10_2
  · exact c_10_3
  · exact c_10_4
  · exact c_10_5
  · exact c_10_6
  · exact c_10_7
  · exact c_10_8
  · exact c_11_0
  · exact c_11_1
  · exact c_11_2
  · exact c_11_3
  · exact c_11_4
  · exact c_11_5
  · exact c_11_6
  · exact c_11_7
  · exact c_11_8
  · exact c_12_0
  · exact c_12_1
  · exact c_12_2
  · exact c_12_3
  · exact c_12_4
  · exact c_12_5
  · exact c_12_6
  · exact c_12_7
  · exact c_12_8
  · exact c_13_0
  · exact c_13_1
  · exact c_13_2
  · exact c_13_3
  · exact c_13_4
  · exact c_13_5
  · exact c_13_6
  · exact c_13_7
  · exact c_13_8
  · exact c_14_0
  · exact c_14_1
  · exact c_14_2
  · exact c_14_3
  · exact c_14_4
  · exact c_14_5
  · exact c_14_6
  · exact c_14_7
  · exact c_14_8
  · exact c_15_0
  · exact c_15_1
  · exact c_15_2
  · exact c_15_3
  · exact c_15_4
  · exact c_15_5
  · exact c_15_6
  · exact c_15_7
  · exact c_15_8
  · exact c_16_0
  · exact c_16_1
  · exact c_16_2
  · exact c_16_3
  · exact c_16_4
  · exact c_16_5
  · exact c_16_6
  · exact c_16_7
  · exact c_16_8
  · exact c_17_0
  · exact c_17_1
  · exact c_17_2
  · exact c_17_3
  · exact c_17_4
  · exact c_17_5
  · exact c_17_6
  · exact c_17_7
  · exact c_17_8
  · exact c_18_0
  · exact c_18_1
  · exact c_18_2
  · exact c_18_3
  · exact c_18_4
  · exact c_18_5
  · exact c_18_6
  · exact c_18_7
  · exact c_18_8
  · exact c_19_0
  · exact c_19_1
  · exact c_19_2
  · exact c_19_3
  · exact c_19_4
  · exact c_19_5
  · exact c_19_6
  · exact c_19_7
  · exact c_19_8
  · exact c_20_0
  · exact c_20_1
  · exact c_20_2
  · exact c_20_3
  · exact c_20_4
  · exact c_20_5
  · exact c_20_6
  · exact c_20_7
  · exact c_20_8
  · exact c_21_0
  · exact c_21_1
  · exact c_21_2
  · exact c_21_3
  · exact c_21_4
  · exact c_21_5
  · exact c_21_6
  · exact c_21_7
  · exact c_21_8

theorem wf0 {n : Int} (h : (Lit.int .u8 n).wf = true) : 0 ≤ n := by
  simp [Lit.wf, IntKind.min, IntKind.max, IntKind.signed, IntKind.bits] at h
  omega
open Go.Ex Go.Ex.B in
theorem walk (a0 : Int) (a1 : Int) (w1 : (Lit.int .u8 a1).wf = true) (W : World) (hm : ∃ m, W.cell? ⟨0, 0, none⟩ = some (.int .i64 m)) :
    Calls Tryz.prog 3 #[.int .i64 a0, (.int .u8 a1)] W fun e w' => e = .returned (.bool true) ∧ Below W.heap.size W w' := by
  have hb := md_lt a0 22 (by omega)
  have hna1 : 0 ≤ a1.tmod 9 ∧ a1.tmod 9 < 9 := by
    rw [Int.tmod_eq_emod_of_nonneg (wf0 w1)]
    omega
  have hc := cases12 (md a0 22) hb.1 hb.2 (a1.tmod 9) hna1.1 hna1.2
  rw [← modF, ← modN _ _ (wf0 w1)] at hc
  obtain ⟨s', hs⟩ := isTrue_inv hc
  have hpos : 0 < W.heap.size := by
    obtain ⟨m, hm⟩ := hm
    rcases Nat.lt_or_ge 0 W.heap.size with h | h
    · exact h
    · have : W.heap[0]? = none := by simp [h]
      simp [World.cell?, this] at hm
  refine ((runM_sound 400 3 _ _ _ _ hs).2 W.heap.size W (fun _ => none) W _ ⟨hpos, hm⟩ (rel0 W) (.cons (.int _ _) (.cons (.int _ _) .nil))).mono fun e w' ⟨ρ', hr, _, he⟩ => ?_
  refine ⟨?_, hr.below⟩
  cases e with
  | returned v =>
    cases he
    rfl
  | panicked _ => exact he.elim
  | _ => exact he.elim

theorem post_none {H : Type} {enc : TypeId × Value → H} {P : Program} {f : Func} {s : ChangeSpec} {apart fresh handsOn again : Bool} {W W' : World} {args : Array Value} {v : Value} {ds gs : List (DataW H)}
    (hW : DataW.Whole enc P f.params.toList s.vars apart W args.toList ds gs [])
    (hres : ∀ (b : Nat) (sp : Nat → Bool) (hd : Bool), DataW.TrodAll enc P W' b sp hd f.resultTypes.toList (v.resultList f.resultTypes.size) (s.fn H (ds ++ gs)).results [])
    (hargs : ∀ sp : Nat → Bool, DataW.TrodAll enc P W' 0 sp true f.params.toList args.toList (s.fn H (ds ++ gs)).args [])
    (hvars : ∀ sp : Nat → Bool, DataW.TrodVars enc P W' sp s.vars (s.fn H (ds ++ gs)).vars [])
    (hk : W.keptBut W' (fun _ => False))
    (hok : ∀ (j : Nat) (t : TypeId) (r : Value), f.resultTypes[j]? = some t → (v.resultList f.resultTypes.size)[j]? = some r → Value.okWide P W' .any 0 t r) :
    s.post enc P f apart fresh handsOn again W args v W' := by
  refine ⟨ds, gs, [], [], [], [], hW, hres _ _ _, hargs _, hvars _, World.keptBut_mono (fun p hp => hp.elim) hk, fun _ => ?_⟩
  refine ⟨hok, _, _, [], ⟨[], [], trodAll_append (hargs _) (hres _ _ _), hvars _, rfl, ?_, ?_⟩, ?_⟩
  · intro b off hp
    cases hp
  · intro _
    simp
  · intro p hp
    cases hp

/-! ### THE ROW's STEP: WRITTEN OUT: LEAVE IT -/
set_option maxRecDepth 100000 in
theorem lifted (os : Os) (started : os.Started) (H : Type) (enc : TypeId × Value → H) :
    ReturnsInHanded {} Tryz.checked os 3 .any (Rows.checkTextSpec.pre6 enc Tryz.prog Tryz.f3 Rows.checkTextRow.domain false) (Rows.checkTextSpec.post enc Tryz.prog Tryz.f3 false true false false) := by
  refine returnsInHanded_of_change_shaped (C := Tryz.checked) own started (by kernel_rfl) Tryz.func3
    (ChangeSpec.witness6 (enc := enc) (C := Tryz.checked) false ⟨#[], #[.int .i64 0, .int .u8 0], []⟩ 8 (by kernel_rfl) (by kernel_rfl) (by kernel_rfl) (by kernel_rfl)) ?_
  intro W base args ds gs before hval0 hW hcnd _ hsh _
  have hval : ∀ (j : Nat) t v, Tryz.f3.params[j]? = some t → args[j]? = some v → Value.okWide Tryz.prog W .any base t v := hval0
  have hW' := hW
  obtain ⟨p, q, hA0, hV, rfl, hfz, hnd⟩ := hW
  have hA : DataW.TrodAll enc Tryz.prog W 0 (fun _ => true) true Tryz.f3.params.toList args.toList ds p := hA0
  rw [Tryz.params3] at hA hval
  obtain ⟨v0, vs0, d0, ds0, p0, q0, hargs, rfl, rfl, h0, r0⟩ := trodAll_cons hA
  obtain ⟨v1, vs1, d1, ds1, p1, q1, rfl, rfl, rfl, h1, r1⟩ := trodAll_cons r0
  obtain ⟨rfl, rfl, rfl⟩ := trodAll_nil r1
  obtain rfl : args = #[v0, v1] := by cases args; simp_all
  obtain ⟨rfl, rfl⟩ := trodVars_none hV
  obtain ⟨a0, rfl, rfl, rfl, w0⟩ := open_int Tryz.underlying3 (hval 0 3 v0 rfl rfl) h0
  obtain ⟨a1, rfl, rfl, rfl, w1⟩ := open_int Tryz.underlying5 (hval 1 5 v1 rfl rfl) h1
  clear hA0 hval0
  simp only [List.append_nil] at hW'
  refine (walk a0 a1 w1 W (Tryz.laysM144.s1_3 W hsh)).mono fun e W' ⟨he, hg⟩ => ?_
  subst he
  exact ⟨_, rfl, post_none hW' (fun _ _ _ => (trodAll_cons_mk (shut_bool Tryz.underlying4 _) trodAll_mk0)) (fun sp => (trodAll_cons_mk (shut_int Tryz.underlying3 w0) (trodAll_cons_mk (shut_int Tryz.underlying5 w1) trodAll_mk0))) (fun _ => rfl)
    (hg.frame _) (ok_one (by kernel_rfl) rfl (okWide_bool_mk Tryz.underlying4 _))⟩

theorem namedF : Tryz.prog.funcNamed Rows.checkTextRow.func = some 3 := by kernel_rfl
theorem instF : Tryz.f3.isInstance Tryz.prog Rows.checkTextRow.origin Rows.checkTextRow.targs := of_decide_eq_true (by kernel_rfl)
theorem wrapF : Tryz.f3.isWrapper Tryz.prog Rows.checkTextRow.wrapper Rows.checkTextRow.mainSum := by
  unfold Func.isWrapper; first | (rw [if_pos (by decide +kernel)]; kernel_rfl) | (rw [if_neg (by decide +kernel)]; exact ⟨rfl, rfl⟩)
theorem over : Rows.checkTextRow.holds Tryz.pinned (OpenSpec.ofChange Rows.checkTextSpec) :=
  OpenClaim.holds_of_wide 3 Tryz.f3 rfl rfl rfl rfl rfl rfl rfl ⟨rfl, rfl, rfl, rfl, rfl⟩ rfl rfl rfl rfl rfl namedF Tryz.func3 facts instF wrapF
    (fun os started H enc _ => lifted os started H enc)

/-- ████ THE STATEMENT ████ -/
theorem proved : Rows.CheckTextSaid :=
  over
end Go.Proofs.YtkjhipeaaffncaaGreat.checkText
