/-
  The call of SurfaceHides (libevolutionlaw09) returns true at every input.
  No condition: every input.
-/
import Derived.Test.YtkcpkgdhkjaboaaGreatRows
import Derived.WalkKit
import Derived.ProofKit
import Derived.OpenShut
import Derived.HandedShaped
import Derived.Below
import Derived.Test.YtkcpkgdhkjaboaaGreatPre3
import Derived.Test.YtkcpkgdhkjaboaaGreatFacts3
import Derived.Test.YtkcpkgdhkjaboaaGreatCa0
import Derived.Test.YtkcpkgdhkjaboaaGreatCa1
import Derived.Test.YtkcpkgdhkjaboaaGreatCa2
import Derived.Test.YtkcpkgdhkjaboaaGreatCa3
import Derived.Test.YtkcpkgdhkjaboaaGreatCa4
import Derived.Test.YtkcpkgdhkjaboaaGreatCa5
import Derived.Test.YtkcpkgdhkjaboaaGreatCa6
import Derived.Test.YtkcpkgdhkjaboaaGreatCa7
set_option linter.unusedVariables false
set_option linter.unusedSimpArgs false
namespace Go.Proofs.YtkcpkgdhkjaboaaGreat.surfaceHides
open Go.ChangeShapes Go.WideShapes Go.ChangeAt Go.RowKit
set_option linter.unusedVariables false      -- a walk need not use every 'w<i>' (that an integer argument fits its kind)

theorem own : ownKnob Tryz.prog.godebug = none := by kernel_rfl

open Go.Ex Go.Ex.B in
theorem cases12 (k : Int) (h0 : 0 ≤ k) (h1 : k < 12) (b1 b2 : Bool) : isTrue (run 400 3 [.int .i64 k, .bool b1, .bool b2] s0) = true := by
  have hk : k = 0 ∨ k = 1 ∨ k = 2 ∨ k = 3 ∨ k = 4 ∨ k = 5 ∨ k = 6 ∨ k = 7 ∨ k = 8 ∨ k = 9 ∨ k = 10 ∨ k = 11 := by omega
  rcases hk with rfl | rfl | rfl | rfl | rfl | rfl | rfl | rfl | rfl | rfl | rfl | rfl <;> cases b1 <;> cases b2
  · exact c3_0_f_f
  · exact c3_0_f_t
  · exact c3_0_t_f
  · exact c3_0_t_t
  · exact c3_1_f_f
  · exact c3_1_f_t
  · exact c3_1_t_f
  · exact c3_1_t_t
  · exact c3_2_f_f
  · exact c3_2_f_t
  · exact c3_2_t_f
  · exact c3_2_t_t
  · exact c3_3_f_f
  · exact c3_3_f_t
  · exact c3_3_t_f
  · exact c3_3_t_t
  · exact c3_4_f_f
  · exact c3_4_f_t
  · exact c3_4_t_f
  · exact c3_4_t_t
  · exact c3_5_f_f
  · exact c3_5_f_t
  · exact c3_5_t_f
  · exact c3_5_t_t
  · exact c3_6_f_f
  · exact c3_6_f_t
  · exact c3_6_t_f
  · exact c3_6_t_t
  · exact c3_7_f_f
  · exact c3_7_f_t
  · exact c3_7_t_f
  · exact c3_7_t_t
  · exact c3_8_f_f
  · exact c3_8_f_t
  · exact c3_8_t_f
  · exact c3_8_t_t
  · exact c3_9_f_f
  · exact c3_9_f_t
  · exact c3_9_t_f
  · exact c3_9_t_t
  · exact c3_10_f_f
  · exact c3_10_f_t
  · exact c3_10_t_f
  · exact c3_10_t_t
  · exact c3_11_f_f
  · exact c3_11_f_t
  · exact c3_11_t_f
  · exact c3_11_t_t

open Go.Ex Go.Ex.B in
theorem rel0 (W : World) : Rel Tryz.prog W.heap.size W (fun _ => none) s0 W where
  live b x h := by cases h
  inj b b' x x' c k k' h := by cases h
  fresh b _ := ⟨rfl, rfl⟩
  bound b c k h := by cases h
  below := Below.refl _ _
  size := Nat.le_refl _

open Go.Ex Go.Ex.B in
theorem walk (a0 : Int) (a1 : Bool) (a2 : Bool) (W : World) (hm : ∃ m, W.cell? ⟨0, 0, none⟩ = some (.int .i64 m)) :
    Calls Tryz.prog 3 #[.int .i64 a0, .bool a1, .bool a2] W fun e w' => e = .returned (.bool true) ∧ Below W.heap.size W w' := by
  have hb := md_lt a0 12 (by omega)
  have hc := cases12 (md a0 12) hb.1 hb.2 a1 a2
  rw [← mod3] at hc
  obtain ⟨s', hs⟩ := isTrue_inv hc
  have hpos : 0 < W.heap.size := by
    obtain ⟨m, hm⟩ := hm
    rcases Nat.eq_zero_or_pos W.heap.size with h | h
    · have : W.heap[0]? = none := by simp [h]
      simp [World.cell?, this] at hm
    · exact h
  refine ((run_sound 400 3 _ _ _ _ hs).2 W.heap.size W (fun _ => none) W _ ⟨hpos, hm⟩ (rel0 W) (.cons (.int _ _) (.cons (.bool _) (.cons (.bool _) .nil)))).mono fun e w' ⟨ρ', hr, _, he⟩ => ?_
  refine ⟨?_, hr.below⟩
  cases e with
  | returned v =>
    cases he
    rfl
  | panicked _ => exact he.elim
  | _ => exact he.elim

theorem post_none {H : Type} {enc : TypeId × Value → H} {P : Program} {f : Func} {s : ChangeSpec} {apart fresh handsOn again : Bool} {W W' : World} {args : Array Value} {v : Value} {ds gs : List (DataW H)}
    (hW : DataW.Whole enc P f.params.toList s.vars apart W args.toList ds gs [])
    (hres : ∀ (b : Nat) (sp : Nat → Bool) (hd : Bool), DataW.TrodAll enc P W' b sp hd f.resultTypes.toList (v.resultList f.resultTypes.size) (s.fn H (ds ++ gs)).results [])
    (hargs : ∀ sp : Nat → Bool, DataW.TrodAll enc P W' 0 sp true f.params.toList args.toList (s.fn H (ds ++ gs)).args [])
    (hvars : ∀ sp : Nat → Bool, DataW.TrodVars enc P W' sp s.vars (s.fn H (ds ++ gs)).vars [])
    (hk : W.keptBut W' (fun _ => False))
    (hok : ∀ (j : Nat) (t : TypeId) (r : Value), f.resultTypes[j]? = some t → (v.resultList f.resultTypes.size)[j]? = some r → Value.okWide P W' .any 0 t r) :
    s.post enc P f apart fresh handsOn again W args v W' := by
  refine ⟨ds, gs, [], [], [], [], hW, hres _ _ _, hargs _, hvars _, World.keptBut_mono (fun p hp => hp.elim) hk, fun _ => ?_⟩
  refine ⟨hok, _, _, [], ⟨[], [], trodAll_append (hargs _) (hres _ _ _), hvars _, rfl, ?_, ?_⟩, ?_⟩
  · intro b off hp
    cases hp
  · intro _
    simp
  · intro p hp
    cases hp

/-! ### THE ROW's STEP: WRITTEN OUT: LEAVE IT -/
set_option maxRecDepth 100000 in
theorem lifted (os : Os) (started : os.Started) (H : Type) (enc : TypeId × Value → H) :
    ReturnsInHanded {} Tryz.checked os 3 .any (Rows.surfaceHidesSpec.pre6 enc Tryz.prog Tryz.f3 Rows.surfaceHidesRow.domain false) (Rows.surfaceHidesSpec.post enc Tryz.prog Tryz.f3 false true false false) := by
  refine returnsInHanded_of_change_shaped (C := Tryz.checked) own started (by kernel_rfl) Tryz.func3
    (ChangeSpec.witness6 (enc := enc) (C := Tryz.checked) false ⟨#[], #[.int .i64 0, .bool false, .bool false], []⟩ 8 (by kernel_rfl) (by kernel_rfl) (by kernel_rfl) (by kernel_rfl)) ?_
  intro W base args ds gs before hval0 hW hcnd _ hsh _
  have hval : ∀ (j : Nat) t v, Tryz.f3.params[j]? = some t → args[j]? = some v → Value.okWide Tryz.prog W .any base t v := hval0
  have hW' := hW
  obtain ⟨p, q, hA0, hV, rfl, hfz, hnd⟩ := hW
  have hA : DataW.TrodAll enc Tryz.prog W 0 (fun _ => true) true Tryz.f3.params.toList args.toList ds p := hA0
  rw [Tryz.params3] at hA hval
  obtain ⟨v0, vs0, d0, ds0, p0, q0, hargs, rfl, rfl, h0, r0⟩ := trodAll_cons hA
  obtain ⟨v1, vs1, d1, ds1, p1, q1, rfl, rfl, rfl, h1, r1⟩ := trodAll_cons r0
  obtain ⟨v2, vs2, d2, ds2, p2, q2, rfl, rfl, rfl, h2, r2⟩ := trodAll_cons r1
  obtain ⟨rfl, rfl, rfl⟩ := trodAll_nil r2
  obtain rfl : args = #[v0, v1, v2] := by cases args; simp_all
  obtain ⟨rfl, rfl⟩ := trodVars_none hV
  obtain ⟨a0, rfl, rfl, rfl, w0⟩ := open_int Tryz.underlying3 (hval 0 3 v0 rfl rfl) h0
  obtain ⟨a1, rfl, rfl, rfl⟩ := open_bool Tryz.underlying4 (hval 1 4 v1 rfl rfl) h1
  obtain ⟨a2, rfl, rfl, rfl⟩ := open_bool Tryz.underlying4 (hval 2 4 v2 rfl rfl) h2
  clear hA0 hval0
  simp only [List.append_nil] at hW'
  refine (walk a0 a1 a2 W (Tryz.laysM144.s1_3 W hsh)).mono fun e W' ⟨he, hg⟩ => ?_
  subst he
  exact ⟨_, rfl, post_none hW' (fun _ _ _ => (trodAll_cons_mk (shut_bool Tryz.underlying4 _) trodAll_mk0)) (fun sp => (trodAll_cons_mk (shut_int Tryz.underlying3 w0) (trodAll_cons_mk (shut_bool Tryz.underlying4 _) (trodAll_cons_mk (shut_bool Tryz.underlying4 _) trodAll_mk0)))) (fun _ => rfl)
    (hg.frame _) (ok_one (by kernel_rfl) rfl (okWide_bool_mk Tryz.underlying4 _))⟩

theorem named3 : Tryz.prog.funcNamed Rows.surfaceHidesRow.func = some 3 := by kernel_rfl
theorem inst3 : Tryz.f3.isInstance Tryz.prog Rows.surfaceHidesRow.origin Rows.surfaceHidesRow.targs := of_decide_eq_true (by kernel_rfl)
theorem wrap3 : Tryz.f3.isWrapper Tryz.prog Rows.surfaceHidesRow.wrapper Rows.surfaceHidesRow.mainSum := by
  unfold Func.isWrapper; first | (rw [if_pos (by decide +kernel)]; kernel_rfl) | (rw [if_neg (by decide +kernel)]; exact ⟨rfl, rfl⟩)
theorem over : Rows.surfaceHidesRow.holds Tryz.pinned (OpenSpec.ofChange Rows.surfaceHidesSpec) :=
  OpenClaim.holds_of_wide 3 Tryz.f3 rfl rfl rfl rfl rfl rfl rfl ⟨rfl, rfl, rfl, rfl, rfl⟩ rfl rfl rfl rfl rfl named3 Tryz.func3 facts inst3 wrap3
    (fun os started H enc _ => lifted os started H enc)

/-- ████ THE STATEMENT ████ -/
theorem proved : Rows.SurfaceHidesSaid :=
  over
end Go.Proofs.YtkcpkgdhkjaboaaGreat.surfaceHides
