/-
  The call of SurfaceForeign (libevolutionlaw09) returns true at every input.
  No condition: every input.
-/
import Derived.Test.YtkcpkgdhkjaboaaGreatRows
import Derived.WalkKit
import Derived.ProofKit
import Derived.OpenShut
import Derived.HandedShaped
import Derived.Below
import Derived.Test.YtkcpkgdhkjaboaaGreatSfPre
import Derived.Test.YtkcpkgdhkjaboaaGreatSfFacts
import Derived.Test.YtkcpkgdhkjaboaaGreatSfCa0
import Derived.Test.YtkcpkgdhkjaboaaGreatSfCa1
set_option linter.unusedVariables false
set_option linter.unusedSimpArgs false
namespace Go.Proofs.YtkcpkgdhkjaboaaGreat.surfaceForeign
open Go.ChangeShapes Go.WideShapes Go.ChangeAt Go.RowKit
set_option linter.unusedVariables false      -- a walk need not use every 'w<i>' (that an integer argument fits its kind)

theorem own : ownKnob Tryz.prog.godebug = none := by kernel_rfl

open Go.Ex Go.Ex.B in
theorem cases12 (k : Int) (h0 : 0 ≤ k) (h1 : k < 5) (b1 : Bool) : isTrue (run 400 4 [.int .i64 k, (.bool b1)] s0) = true := by
  have hk : k = 0 ∨ k = 1 ∨ k = 2 ∨ k = 3 ∨ k = 4 := by omega
  rcases hk with rfl | rfl | rfl | rfl | rfl  <;> cases b1
  · exact c_0_false
  · exact c_0_true
  · exact c_1_false
  · exact c_1_true
  · exact c_2_false
  · exact c_2_true
  · exact c_3_false
  · exact c_3_true
  · exact c_4_false
  · exact c_4_true

open Go.Ex Go.Ex.B in
theorem rel0 (W : World) : Rel Tryz.prog W.heap.size W (fun _ => none) s0 W where
  live b x h := by cases h
  inj b b' x x' c k k' h := by cases h
  fresh b _ := ⟨rfl, rfl⟩
  bound b c k h := by cases h
  below := Below.refl _ _
  size := Nat.le_refl _

open Go.Ex Go.Ex.B in
theorem walk (a0 : Int) (a1 : Bool) (W : World) (hm : ∃ m, W.cell? ⟨0, 0, none⟩ = some (.int .i64 m)) :
    Calls Tryz.prog 4 #[.int .i64 a0, (.bool a1)] W fun e w' => e = .returned (.bool true) ∧ Below W.heap.size W w' := by
  have hb := md_lt a0 5 (by omega)
  have hc := cases12 (md a0 5) hb.1 hb.2 a1
  rw [← modF] at hc
  obtain ⟨s', hs⟩ := isTrue_inv hc
  have hpos : 0 < W.heap.size := by
    obtain ⟨m, hm⟩ := hm
    rcases Nat.lt_or_ge 0 W.heap.size with h | h
    · exact h
    · have : W.heap[0]? = none := by simp [h]
      simp [World.cell?, this] at hm
  refine ((run_sound 400 4 _ _ _ _ hs).2 W.heap.size W (fun _ => none) W _ ⟨hpos, hm⟩ (rel0 W) (.cons (.int _ _) (.cons (.bool _) .nil))).mono fun e w' ⟨ρ', hr, _, he⟩ => ?_
  refine ⟨?_, hr.below⟩
  cases e with
  | returned v =>
    cases he
    rfl
  | panicked _ => exact he.elim
  | _ => exact he.elim

theorem post_none {H : Type} {enc : TypeId × Value → H} {P : Program} {f : Func} {s : ChangeSpec} {apart fresh handsOn again : Bool} {W W' : World} {args : Array Value} {v : Value} {ds gs : List (DataW H)}
    (hW : DataW.Whole enc P f.params.toList s.vars apart W args.toList ds gs [])
    (hres : ∀ (b : Nat) (sp : Nat → Bool) (hd : Bool), DataW.TrodAll enc P W' b sp hd f.resultTypes.toList (v.resultList f.resultTypes.size) (s.fn H (ds ++ gs)).results [])
    (hargs : ∀ sp : Nat → Bool, DataW.TrodAll enc P W' 0 sp true f.params.toList args.toList (s.fn H (ds ++ gs)).args [])
    (hvars : ∀ sp : Nat → Bool, DataW.TrodVars enc P W' sp s.vars (s.fn H (ds ++ gs)).vars [])
    (hk : W.keptBut W' (fun _ => False))
    (hok : ∀ (j : Nat) (t : TypeId) (r : Value), f.resultTypes[j]? = some t → (v.resultList f.resultTypes.size)[j]? = some r → Value.okWide P W' .any 0 t r) :
    s.post enc P f apart fresh handsOn again W args v W' := by
  refine ⟨ds, gs, [], [], [], [], hW, hres _ _ _, hargs _, hvars _, World.keptBut_mono (fun p hp => hp.elim) hk, fun _ => ?_⟩
  refine ⟨hok, _, _, [], ⟨[], [], trodAll_append (hargs _) (hres _ _ _), hvars _, rfl, ?_, ?_⟩, ?_⟩
  · intro b off hp
    cases hp
  · intro _
    simp
  · intro p hp
    cases hp

/-! ### THE ROW's STEP: WRITTEN OUT: LEAVE IT -/
set_option maxRecDepth 100000 in
theorem lifted (os : Os) (started : os.Started) (H : Type) (enc : TypeId × Value → H) :
    ReturnsInHanded {} Tryz.checked os 4 .any (Rows.surfaceForeignSpec.pre6 enc Tryz.prog Tryz.f4 Rows.surfaceForeignRow.domain false) (Rows.surfaceForeignSpec.post enc Tryz.prog Tryz.f4 false true false false) := by
  refine returnsInHanded_of_change_shaped (C := Tryz.checked) own started (by kernel_rfl) Tryz.func4
    (ChangeSpec.witness6 (enc := enc) (C := Tryz.checked) false ⟨#[], #[.int .i64 0, .bool false], []⟩ 8 (by kernel_rfl) (by kernel_rfl) (by kernel_rfl) (by kernel_rfl)) ?_
  intro W base args ds gs before hval0 hW hcnd _ hsh _
  have hval : ∀ (j : Nat) t v, Tryz.f4.params[j]? = some t → args[j]? = some v → Value.okWide Tryz.prog W .any base t v := hval0
  have hW' := hW
  obtain ⟨p, q, hA0, hV, rfl, hfz, hnd⟩ := hW
  have hA : DataW.TrodAll enc Tryz.prog W 0 (fun _ => true) true Tryz.f4.params.toList args.toList ds p := hA0
  rw [Tryz.params4] at hA hval
  obtain ⟨v0, vs0, d0, ds0, p0, q0, hargs, rfl, rfl, h0, r0⟩ := trodAll_cons hA
  obtain ⟨v1, vs1, d1, ds1, p1, q1, rfl, rfl, rfl, h1, r1⟩ := trodAll_cons r0
  obtain ⟨rfl, rfl, rfl⟩ := trodAll_nil r1
  obtain rfl : args = #[v0, v1] := by cases args; simp_all
  obtain ⟨rfl, rfl⟩ := trodVars_none hV
  obtain ⟨a0, rfl, rfl, rfl, w0⟩ := open_int Tryz.underlying3 (hval 0 3 v0 rfl rfl) h0
  obtain ⟨a1, rfl, rfl, rfl⟩ := open_bool Tryz.underlying4 (hval 1 4 v1 rfl rfl) h1
  clear hA0 hval0
  simp only [List.append_nil] at hW'
  refine (walk a0 a1 W (Tryz.laysM144.s1_3 W hsh)).mono fun e W' ⟨he, hg⟩ => ?_
  subst he
  exact ⟨_, rfl, post_none hW' (fun _ _ _ => (trodAll_cons_mk (shut_bool Tryz.underlying4 _) trodAll_mk0)) (fun sp => (trodAll_cons_mk (shut_int Tryz.underlying3 w0) (trodAll_cons_mk (shut_bool Tryz.underlying4 _) trodAll_mk0))) (fun _ => rfl)
    (hg.frame _) (ok_one (by kernel_rfl) rfl (okWide_bool_mk Tryz.underlying4 _))⟩

theorem namedF : Tryz.prog.funcNamed Rows.surfaceForeignRow.func = some 4 := by kernel_rfl
theorem instF : Tryz.f4.isInstance Tryz.prog Rows.surfaceForeignRow.origin Rows.surfaceForeignRow.targs := of_decide_eq_true (by kernel_rfl)
theorem wrapF : Tryz.f4.isWrapper Tryz.prog Rows.surfaceForeignRow.wrapper Rows.surfaceForeignRow.mainSum := by
  unfold Func.isWrapper; first | (rw [if_pos (by decide +kernel)]; kernel_rfl) | (rw [if_neg (by decide +kernel)]; exact ⟨rfl, rfl⟩)
theorem over : Rows.surfaceForeignRow.holds Tryz.pinned (OpenSpec.ofChange Rows.surfaceForeignSpec) :=
  OpenClaim.holds_of_wide 4 Tryz.f4 rfl rfl rfl rfl rfl rfl rfl ⟨rfl, rfl, rfl, rfl, rfl⟩ rfl rfl rfl rfl rfl namedF Tryz.func4 facts instF wrapF
    (fun os started H enc _ => lifted os started H enc)

/-- ████ THE STATEMENT ████ -/
theorem proved : Rows.SurfaceForeignSaid :=
  over
end Go.Proofs.YtkcpkgdhkjaboaaGreat.surfaceForeign
