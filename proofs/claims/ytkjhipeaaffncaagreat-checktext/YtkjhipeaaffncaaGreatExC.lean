/-
  Part of the proof of: The call of CheckText (libevolutionlaw07) returns true at every input. This text: an executor of the loaded code over abstract values, and its soundness.
  No condition: every input.
-/
import Derived.Test.YtkjhipeaaffncaaGreatExB
import Derived.LoopN
set_option linter.unusedVariables false
set_option linter.unusedSimpArgs false
/-! # One operation -/
namespace Go.Ex
open Go.RowKit

/-- The functions without a body that stand for bytealg.IndexByteString. -/
def SoundX (P : Program) (X : FuncId → Bool) : Prop := ∀ f, X f = true → ∀ args w, (callFunc f args).run P w = ((Extern.BytealgIndexByte.indexByte args).run P w).andThen fun v w' => .ok (.value v) w'
/-- How a call ends. -/
def EndR (ρ : Loc) : AEnd → Ending → Prop
  | .ret x, .returned v => VR ρ x v
  | .pan x, .panicked [{ v, recovered := false, goexit := false }] => VR ρ x v
  | _, _ => False
/-- What is said of the functions that are called. I: what holds of the world in which all began. -/
def SoundG (P : Program) (I : Nat → World → Prop) (Γ : Gam) : Prop := ∀ f args s r s', Γ f args s = some (r, s') →
  (∀ vargs w, (callFunc f vargs).run P w = .ok (.enter f vargs) w) ∧
  ∀ base w0 ρ w (vargs : Array Value), I base w0 → Rel P base w0 ρ s w → VRL ρ args vargs.toList →
    Calls P f vargs w fun e w' => ∃ ρ', Rel P base w0 ρ' s' w' ∧ Step ρ s w ρ' s' w' ∧ EndR ρ' r e

section
variable {P : Program} {X : FuncId → Bool} {Γ : Gam} {I : Nat → World → Prop} {base : Nat} {w0 w : World} {ρ : Loc} {s : AS} {fr : Frm} {a : Act} {o : Oper}

theorem v_run {x : Sem Value} {v : Value} (h : x.run P w = .ok v w) : (do pure (Next.value (← x)) : Sem Next).run P w = .ok (.value v) w := by
  rw [Sem.run_bind, h]
  rfl
theorem v_run' {x : Sem Value} {v : Value} {w' : World} (h : x.run P w = .ok v w') : (do pure (Next.value (← x)) : Sem Next).run P w = .ok (.value v) w' := by
  rw [Sem.run_bind, h]
  rfl
theorem u_run {x : Sem Unit} {w' : World} (h : x.run P w = .ok () w') : (do x; pure Next.skip : Sem Next).run P w = .ok .skip w' := by
  rw [Sem.run_bind, h]
  rfl

theorem eqk_int {t : TypeId} (h : eqk P t = .int) : ∃ k, P.underlying t = some (.int k) := by
  unfold eqk at h; split at h <;> simp_all
theorem eqk_str {t : TypeId} (h : eqk P t = .str) : P.underlying t = some .string := by
  unfold eqk at h; split at h <;> simp_all
theorem eqk_bool {t : TypeId} (h : eqk P t = .bool) : P.underlying t = some .bool := by
  unfold eqk at h; split at h <;> simp_all
theorem eqk_ptr {t : TypeId} (h : eqk P t = .ptr) : ∃ e, P.underlying t = some (.pointer e) := by
  unfold eqk at h; split at h <;> simp_all
theorem eqk_slice {t : TypeId} (h : eqk P t = .slice) : ∃ e, P.underlying t = some (.slice e) := by
  unfold eqk at h; split at h <;> simp_all

theorem args2 {c : Call} {x y : Operand} (h : c.args.toList = [x, y]) : c.args = #[x, y] := Array.ext' (by simpa using h)
theorem args1 {c : Call} {x : Operand} (h : c.args.toList = [x]) : c.args = #[x] := Array.ext' (by simpa using h)
theorem types2 {c : Call} {x y : TypeId} (h : c.argTypes.toList = [x, y]) : c.argTypes = #[x, y] := Array.ext' (by simpa using h)
theorem types1 {c : Call} {x : TypeId} (h : c.argTypes.toList = [x]) : c.argTypes = #[x] := Array.ext' (by simpa using h)

theorem pure_ok (hX : SoundX P X) (hr : Rel P base w0 ρ s w) (hf : FR ρ fr a.tmps) {x : AV} (h : aop P X Γ fr s o = .pure (some x)) :
    ∃ v, (execOp a.eval o).run P w = .ok (.value v) w ∧ VR ρ x v := by
  cases ho : o.op <;> simp only [aop, ho, reduceCtorEq, OpR.pure.injEq, Option.some.injEq] at h
  case move y => subst h; exact ⟨_, by simp [execOp, ho], hf.ev y⟩
  case assign y => subst h; exact ⟨_, by simp [execOp, ho], hf.ev y⟩
  case pick c y z => exact pickA_ok hf ho h
  case alloc e => split at h <;> cases h
  case build t parts =>
    split at h
    · rename_i z hz
      split at h
      · rename_i l ha hp
        simp only [OpR.pure.injEq] at h
        obtain ⟨v, h1, h2⟩ := build_ok (w := w) hf hz ha hp h
        exact ⟨v, by simp only [execOp, ho]; exact v_run h1, h2⟩
      · cases h
    · cases h
  case buildSlice t len parts =>
    split at h
    · split at h
      · split at h
        · split at h
          · split at h <;> cases h
          · cases h
        · cases h
      · cases h
    · cases h
  case load t p =>
    have h' : (match lk P t with | .agg n => ldA s (ev fr p) n | .one => ld1 s (ev fr p) | .bad => none) = some x := by
      split at h <;> simp_all
    obtain ⟨u, h1, h2⟩ := load_ok hr (hf.ev p) h'
    exact ⟨u, by simp only [execOp, ho]; exact v_run h1, h2⟩
  case store t p y => split at h <;> cases h
  case nilCheck y => exact nilChk_ok hf ho h
  case binOp op t y z yt =>
    split at h
    · simp only [OpR.pure.injEq] at h
      obtain ⟨r, h1, h2⟩ := binI_ok (P := P) (w := w) (t := t) y z (hf.ev y) (hf.ev z) h
      exact ⟨r, by simp only [execOp, ho]; exact v_run h1, h2⟩
    · simp only [OpR.pure.injEq] at h
      obtain ⟨r, h1, h2⟩ := binS_ok (P := P) (w := w) (t := t) y z (hf.ev y) (hf.ev z) h
      exact ⟨r, by simp only [execOp, ho]; exact v_run h1, h2⟩
    · rename_i hk
      split at h
      · rename_i neg hn
        simp only [OpR.pure.injEq] at h
        obtain ⟨r, h1, h2⟩ := eqB_ok (P := P) (w := w) (t := t) y z (eqk_bool hk) (hf.ev y) (hf.ev z) h hn
        exact ⟨r, by simp only [execOp, ho]; exact v_run h1, h2⟩
      · cases h
    · rename_i hk
      split at h
      · rename_i neg hn
        simp only [OpR.pure.injEq] at h
        obtain ⟨e, hu⟩ := eqk_ptr hk
        obtain ⟨r, h1, h2⟩ := eqP_ok (P := P) (w := w) (t := t) y z hu (hf.ev y) (hf.ev z) h hn
        exact ⟨r, by simp only [execOp, ho]; exact v_run h1, h2⟩
      · cases h
    · rename_i hk
      split at h
      · rename_i neg hn
        simp only [OpR.pure.injEq] at h
        obtain ⟨e, hu⟩ := eqk_slice hk
        obtain ⟨r, h1, h2⟩ := eqSl_ok (P := P) (w := w) (t := t) y z hu (hf.ev y) (hf.ev z) h hn
        exact ⟨r, by simp only [execOp, ho]; exact v_run h1, h2⟩
      · cases h
    · cases h
  case unOp op t y =>
    split at h
    · simp only [OpR.pure.injEq] at h
      obtain ⟨r, h1, h2⟩ := notA_ok (P := P) (w := w) (hf.ev y) h
      exact ⟨r, by simp only [execOp, ho]; exact v_run h1, h2⟩
    · simp only [OpR.pure.injEq] at h
      obtain ⟨r, h1, h2⟩ := negA_ok (P := P) (w := w) (hf.ev y) h
      exact ⟨r, by simp only [execOp, ho]; exact v_run h1, h2⟩
    · cases h
  case convert src dst y =>
    split at h
    · rename_i hs hd
      simp only [OpR.pure.injEq] at h
      obtain ⟨r, h1, h2⟩ := cvtI_ok (w := w) hs hd (hf.ev y) h
      exact ⟨r, by simp only [execOp, ho]; exact v_run h1, h2⟩
    · rename_i hs hd
      simp only [OpR.pure.injEq] at h
      obtain ⟨r, h1, h2⟩ := cvtS_ok (w := w) hs hd (hf.ev y) h
      exact ⟨r, by simp only [execOp, ho]; exact v_run h1, h2⟩
    · rename_i e hs hd
      split at h
      · rename_i he
        simp only [OpR.pure.injEq] at h
        obtain ⟨r, h1, h2⟩ := cvtB_ok hr hs he hd (hf.ev y) h
        exact ⟨r, by simp only [execOp, ho]; exact v_run h1, h2⟩
      · cases h
    · cases h
  case makeInterface t y =>
    split at h
    · cases h
    · rename_i d hn hu
      simp only [OpR.pure.injEq] at h
      obtain ⟨r, h1, h2⟩ := ifaceA_ok (w := w) hu (fun ms e => by subst e; exact hn ms rfl) (hf.ev y) h
      exact ⟨r, by simp only [execOp, ho]; exact v_run h1, h2⟩
    · cases h
  case makeFunc fn first captured =>
    split at h
    · rename_i f hfirst
      simp only [OpR.pure.injEq] at h
      have hfe : first = #[] := Array.ext' (by simpa using hfirst)
      subst hfe
      obtain ⟨r, h1, h2⟩ := funcA_ok (P := P) (w := w) (vs := captured.map a.eval) (by simpa using hf.evs captured.toList) h
      exact ⟨r, by simp only [execOp, ho, List.map_toArray, List.map_nil]; exact v_run h1, h2⟩
    · cases h
  case makeMap t r => split at h <;> cases h
  case makeSlice t l c =>
    split at h
    · split at h
      · split at h <;> cases h
      · cases h
    · cases h
  case slice t y lo hi mx =>
    split at h
    · rename_i hu
      split at h
      · simp only [OpR.pure.injEq] at h
        obtain ⟨r, h1, h2⟩ := cutStr_ok (w := w) hu (hf.ev y) (hf.opt lo) (hf.opt hi) h
        exact ⟨r, by simp only [execOp, ho]; exact v_run h1, h2⟩
      · cases h
    · rename_i e hu
      split at h
      · rename_i n hs
        split at h
        · cases h
        · rename_i hmx
          simp only [OpR.pure.injEq] at h
          obtain ⟨r, h1, h2⟩ := cutSl_ok (w := w) hu hs (hf.ev y) (hf.opt lo) (hf.opt hi) (hf.opt mx) (by
            cases mx with
            | none => simp
            | some m => cases hi with
              | none => exact absurd rfl (hmx m rfl)
              | some q => simp) h
          exact ⟨r, by simp only [execOp, ho]; exact v_run h1, h2⟩
      · cases h
    · cases h
  case fieldAddr t y i =>
    split at h
    · rename_i fs hu
      split at h
      · rename_i f hi
        split at h
        · rename_i n hs
          simp only [OpR.pure.injEq] at h
          obtain ⟨r, h1, h2⟩ := fldAddr_ok (w := w) (hf.ev y) hs h hu hi
          exact ⟨r, by simp only [execOp, ho]; exact v_run h1, h2⟩
        · cases h
      · cases h
    · cases h
  case field t y i =>
    split at h
    · rename_i fs hu
      split at h
      · rename_i f hi
        have h' : (match lk P f.type with | .agg n => fldN (ev fr y) f.offset n | .one => fld1 (ev fr y) f.offset | .bad => none) = some x := by
          split at h <;> simp_all
        obtain ⟨r, h1, h2⟩ := fld_ok (w := w) (hf.ev y) h' hu hi
        exact ⟨r, by simp only [execOp, ho]; exact v_run h1, h2⟩
      · cases h
    · cases h
  case indexAddr t y i =>
    split at h
    · rename_i e hu
      split at h
      · rename_i n hs
        simp only [OpR.pure.injEq] at h
        obtain ⟨r, h1, h2⟩ := idxAddr_ok (w := w) (hf.ev y) (hf.ev i) hu hs h
        exact ⟨r, by simp only [execOp, ho]; exact v_run h1, h2⟩
      · cases h
    · cases h
  case index t y i =>
    split at h
    · rename_i hu
      simp only [OpR.pure.injEq] at h
      obtain ⟨r, h1, h2⟩ := idxStr_ok (w := w) (hf.ev y) (hf.ev i) hu h
      exact ⟨r, by simp only [execOp, ho]; exact v_run h1, h2⟩
    · cases h
  case lookup t m k ok =>
    split at h
    · rename_i kt e hu
      split at h
      · rename_i z hk hz
        simp only [OpR.pure.injEq] at h
        obtain ⟨kk, hd⟩ := eqk_int hk
        obtain ⟨r, h1, h2⟩ := lookA_ok hr hu hd rfl hz (hf.ev m) (hf.ev k) h
        exact ⟨r, by simp only [execOp, ho]; exact v_run h1, h2⟩
      · rename_i z hk hz
        simp only [OpR.pure.injEq] at h
        obtain ⟨r, h1, h2⟩ := lookA_ok hr hu (eqk_str hk) rfl hz (hf.ev m) (hf.ev k) h
        exact ⟨r, by simp only [execOp, ho]; exact v_run h1, h2⟩
      · rename_i z hk hz
        simp only [OpR.pure.injEq] at h
        obtain ⟨r, h1, h2⟩ := lookA_ok hr hu (eqk_bool hk) rfl hz (hf.ev m) (hf.ev k) h
        exact ⟨r, by simp only [execOp, ho]; exact v_run h1, h2⟩
      · cases h
    · cases h
  case mapUpdate t m k y => split at h <;> (try split at h) <;> cases h
  case insert t m k y => split at h <;> (try split at h) <;> cases h
  case typeAssert y xt t ok =>
    split at h
    · cases h
    · rename_i d hn hu
      split at h
      · rename_i z hz
        simp only [OpR.pure.injEq] at h
        obtain ⟨r, h1, h2⟩ := assertA_ok (w := w) (xt := xt) hu (fun ms e => by subst e; exact hn ms rfl) hz (hf.ev y) h
        exact ⟨r, by simp only [execOp, ho]; exact v_run h1, h2⟩
      · cases h
    · cases h
  case extract y i =>
    obtain ⟨r, h1, h2⟩ := xtr_ok (P := P) (w := w) (hf.ev y) h
    exact ⟨r, by simp only [execOp, ho]; exact v_run h1, h2⟩
  case call c =>
    split at h
    · rename_i f hcal
      split at h
      · rename_i hXf
        split at h
        · rename_i y z hargs
          simp only [OpR.pure.injEq] at h
          obtain ⟨r, h1, h2⟩ := idxByteA_ok (P := P) (w := w) (hf.ev y) (hf.ev z) h
          refine ⟨r, ?_, h2⟩
          simp only [execOp, ho, resolve, hcal, args2 hargs, Sem.run_bind]
          have h3 : (Deferred.ofValue (a.eval (.func f)) ((#[y, z] : Array Operand).map a.eval)).run P w = .ok { target := .fn (.func f) #[], args := #[a.eval y, a.eval z] } w := by
            simp [Deferred.ofValue, Act.eval]
          rw [h3, Result.andThen_ok]
          simp only [invoke, Array.append_empty]
          rw [hX f hXf, h1, Result.andThen_ok]
        · cases h
      · cases h
    · cases h
    · cases h
    · rename_i b hcal
      have hrun : ∀ ts v, (builtin b c.argTypes o.type (c.args.map fun | .const _ => true | _ => false) (c.args.map a.eval)).run P w = .ok (.value v) w → ts = c.argTypes → (execOp a.eval o).run P w = .ok (.value v) w := by
        intro ts v hv _
        simp only [execOp, ho, resolve, hcal, Sem.run_bind, Sem.run_pure, Result.andThen_ok, invoke]
        exact hv
      split at h
      · rename_i y z tx ty hargs htypes
        split at h
        · split at h
          · split at h
            · split at h <;> cases h
            · cases h
          · cases h
        · cases h
      · rename_i y t hargs htypes
        split at h
        · rename_i hu
          simp only [OpR.pure.injEq] at h
          obtain ⟨r, h1, h2⟩ := lenS_ok (w := w) (ty := o.type) hu (hf.ev y) h
          refine ⟨r, hrun _ r ?_ rfl, h2⟩
          rw [args1 hargs, types1 htypes]
          simp only [builtin]
          exact v_run (by simpa using h1)
        · rename_i e hu
          simp only [OpR.pure.injEq] at h
          obtain ⟨r, h1, h2⟩ := lenL_ok (w := w) (ty := o.type) hu (hf.ev y) h
          refine ⟨r, hrun _ r ?_ rfl, h2⟩
          rw [args1 hargs, types1 htypes]
          simp only [builtin]
          exact v_run (by simpa using h1)
        · cases h
      · rename_i y z hargs
        simp only [OpR.pure.injEq] at h
        obtain ⟨r, h1, h2⟩ := maxL_ok (P := P) (w := w) (hf.ev y) (VRL.map_ev (fun x => hf.ev x) z) h
        refine ⟨r, hrun _ r ?_ rfl, h2⟩
        have hl : (c.args.map a.eval).toList = a.eval y :: z.map a.eval := by rw [Array.toList_map, hargs]; rfl
        simp only [builtin]
        refine v_run ?_
        simp only [Builtin.max_, hl]
        exact h1
      · rename_i y z hargs
        simp only [OpR.pure.injEq] at h
        obtain ⟨r, h1, h2⟩ := minA_ok (P := P) (w := w) (ts := c.argTypes) (t := o.type) (hf.ev y) (hf.ev z) h
        refine ⟨r, hrun _ r ?_ rfl, h2⟩
        rw [args2 hargs]
        simp only [builtin]
        exact v_run (by simpa using h1)
      · split at h
        · split at h
          · split at h <;> cases h
          · cases h
        · cases h
      · cases h

/-- What an operation that makes or writes memory does. -/
theorem st_ok (hr : Rel P base w0 ρ s w) (hf : FR ρ fr a.tmps) {x : AV} {s' : AS} (h : aop P X Γ fr s o = .st (some (x, s'))) :
    ∃ ρ' w' v, ((execOp a.eval o).run P w = .ok (.value v) w' ∨ ((execOp a.eval o).run P w = .ok .skip w' ∧ v = undef)) ∧ Rel P base w0 ρ' s' w' ∧ Step ρ s w ρ' s' w' ∧ VR ρ' x v := by
  cases ho : o.op <;> simp only [aop, ho, reduceCtorEq, OpR.st.injEq] at h
  case alloc e =>
    split at h
    · rename_i z hz
      simp only [OpR.st.injEq] at h
      obtain ⟨zv, hzr, hzv⟩ := run_zero (ρ := ρ) (w := w) hz
      obtain ⟨ρ', c, h1, h2, h3, h4⟩ := newBox_ok hr hzv h
      refine ⟨ρ', _, _, .inl ?_, h2, h3, h4⟩
      simp only [execOp, ho]
      exact v_run' (by simp [Instr.alloc, hzr, h1])
    · cases h
  case box e y =>
    obtain ⟨ρ', c, h1, h2, h3, h4⟩ := newBox_ok hr (hf.ev y) h
    refine ⟨ρ', _, _, .inl ?_, h2, h3, h4⟩
    simp only [execOp, ho]
    exact v_run' (by simp [Instr.box, h1])
  case build t parts =>
    split at h
    · split at h <;> cases h
    · cases h
  case buildSlice t len parts =>
    split at h
    · rename_i e hu
      split at h
      · rename_i n z hs hz
        split at h
        · rename_i zc hzc
          split at h
          · rename_i hn
            split at h
            · rename_i l hp
              simp only [OpR.st.injEq] at h
              obtain ⟨ρ', w', v, h1, h2, h3, h4⟩ := buildS_ok hr hf hu hs hz hzc hn hp h
              exact ⟨ρ', w', v, .inl (by simp only [execOp, ho]; exact v_run' h1), h2, h3, h4⟩
            · cases h
          · cases h
        · cases h
      · cases h
    · cases h
  case load t p => split at h <;> cases h
  case store t p y =>
    split at h
    · rename_i n hs
      simp only [OpR.st.injEq] at h
      obtain ⟨w', h1, h2, h3, h4⟩ := stV_ok hr hs (hf.ev p) (hf.ev y) h
      subst h4
      exact ⟨ρ, w', undef, .inr ⟨by simp only [execOp, ho]; exact u_run h1, rfl⟩, h2, h3, .poison _⟩
    · cases h
  case binOp op t y z yt => split at h <;> (try split at h) <;> cases h
  case unOp op t y => split at h <;> cases h
  case convert src dst y => split at h <;> (try split at h) <;> cases h
  case makeInterface t y => split at h <;> cases h
  case makeFunc fn first captured => split at h <;> cases h
  case makeMap t r =>
    split at h
    · simp only [OpR.st.injEq] at h
      obtain ⟨ρ', w', v, h1, h2, h3, h4⟩ := mkMap_ok hr (t := t) h
      exact ⟨ρ', w', v, .inl (by simp only [execOp, ho]; exact v_run' h1), h2, h3, h4⟩
    · cases h
  case makeSlice t l c =>
    split at h
    · rename_i e hu
      split at h
      · rename_i n z hs hz
        split at h
        · rename_i zc hzc
          simp only [OpR.st.injEq] at h
          obtain ⟨ρ', w', v, h1, h2, h3, h4⟩ := makeS_ok hr hu hs hz hzc (hf.ev l) (hf.ev c) h
          exact ⟨ρ', w', v, .inl (by simp only [execOp, ho]; exact v_run' h1), h2, h3, h4⟩
        · cases h
      · cases h
    · cases h
  case slice t y lo hi mx =>
    split at h
    · split at h <;> cases h
    · split at h
      · split at h <;> cases h
      · cases h
    · cases h
  case fieldAddr t y i =>
    split at h
    · split at h
      · split at h <;> cases h
      · cases h
    · cases h
  case field t y i =>
    split at h
    · split at h
      · split at h <;> cases h
      · cases h
    · cases h
  case indexAddr t y i =>
    split at h
    · split at h <;> cases h
    · cases h
  case index t y i => split at h <;> cases h
  case lookup t m k ok =>
    split at h
    · split at h <;> cases h
    · cases h
  case mapUpdate t m k y =>
    split at h
    · rename_i kt e hu
      split at h
      · rename_i hk
        obtain ⟨kk, hd⟩ := eqk_int hk
        simp only [OpR.st.injEq] at h
        obtain ⟨w', h1, h2, h3, h4⟩ := mapUpd_ok hr hu hd rfl (hf.ev m) (hf.ev k) (hf.ev y) h
        subst h4
        exact ⟨ρ, w', undef, .inr ⟨by simp only [execOp, ho]; exact u_run h1, rfl⟩, h2, h3, .poison _⟩
      · rename_i hk
        simp only [OpR.st.injEq] at h
        obtain ⟨w', h1, h2, h3, h4⟩ := mapUpd_ok hr hu (eqk_str hk) rfl (hf.ev m) (hf.ev k) (hf.ev y) h
        subst h4
        exact ⟨ρ, w', undef, .inr ⟨by simp only [execOp, ho]; exact u_run h1, rfl⟩, h2, h3, .poison _⟩
      · rename_i hk
        simp only [OpR.st.injEq] at h
        obtain ⟨w', h1, h2, h3, h4⟩ := mapUpd_ok hr hu (eqk_bool hk) rfl (hf.ev m) (hf.ev k) (hf.ev y) h
        subst h4
        exact ⟨ρ, w', undef, .inr ⟨by simp only [execOp, ho]; exact u_run h1, rfl⟩, h2, h3, .poison _⟩
      · cases h
    · cases h
  case insert t m k y =>
    split at h
    · rename_i kt e hu
      split at h
      · rename_i hk
        obtain ⟨kk, hd⟩ := eqk_int hk
        simp only [OpR.st.injEq] at h
        obtain ⟨w', h1, h2, h3, h4⟩ := mapUpd_ok hr hu hd rfl (hf.ev m) (hf.ev k) (hf.ev y) h
        subst h4
        exact ⟨ρ, w', undef, .inr ⟨by simp only [execOp, ho]; exact u_run h1, rfl⟩, h2, h3, .poison _⟩
      · rename_i hk
        simp only [OpR.st.injEq] at h
        obtain ⟨w', h1, h2, h3, h4⟩ := mapUpd_ok hr hu (eqk_str hk) rfl (hf.ev m) (hf.ev k) (hf.ev y) h
        subst h4
        exact ⟨ρ, w', undef, .inr ⟨by simp only [execOp, ho]; exact u_run h1, rfl⟩, h2, h3, .poison _⟩
      · rename_i hk
        simp only [OpR.st.injEq] at h
        obtain ⟨w', h1, h2, h3, h4⟩ := mapUpd_ok hr hu (eqk_bool hk) rfl (hf.ev m) (hf.ev k) (hf.ev y) h
        subst h4
        exact ⟨ρ, w', undef, .inr ⟨by simp only [execOp, ho]; exact u_run h1, rfl⟩, h2, h3, .poison _⟩
      · cases h
    · cases h
  case typeAssert y xt t ok =>
    split at h
    · cases h
    · split at h <;> cases h
    · cases h
  case call c =>
    split at h
    · split at h
      · split at h <;> cases h
      · cases h
    · cases h
    · cases h
    · rename_i b hcal
      have hrun : ∀ v w', (builtin b c.argTypes o.type (c.args.map fun | .const _ => true | _ => false) (c.args.map a.eval)).run P w = .ok (.value v) w' → (execOp a.eval o).run P w = .ok (.value v) w' := by
        intro v w' hv
        simp only [execOp, ho, resolve, hcal, Sem.run_bind, Sem.run_pure, Result.andThen_ok, invoke]
        exact hv
      split at h
      · rename_i y z tx ty hargs htypes
        split at h
        · rename_i e e2 hux huy
          split at h
          · rename_i n zz hs hz
            split at h
            · rename_i zc hzc
              split at h
              · rename_i hn
                simp only [Bool.and_eq_true, Bool.not_eq_true'] at hn
                simp only [OpR.st.injEq] at h
                unfold appA at h
                split at h
                · cases h
                · rename_i m ys hsrc
                  obtain ⟨ρ', w', v, h1, h2, h3, h4⟩ := appTo_ok (t := o.type) hr hux huy hs hz hzc (Nat.eq_of_beq_eq_true hn.1) (hf.ev y) (hf.ev z) hsrc h (Nat.ne_of_beq_eq_false hn.2)
                  refine ⟨ρ', w', v, .inl (hrun v w' ?_), h2, h3, h4⟩
                  rw [args2 hargs, types2 htypes]
                  simp only [builtin]
                  exact v_run' (by simpa using h1)
              · cases h
            · cases h
          · cases h
        · cases h
      · rename_i y t hargs htypes
        split at h <;> cases h
      · cases h
      · cases h
      · rename_i y t hargs htypes
        split at h
        · rename_i e hu
          split at h
          · rename_i n zz hs hz
            split at h
            · rename_i zc hzc
              simp only [OpR.st.injEq] at h
              obtain ⟨ρ', w', v, h1, h2, h3, h4⟩ := clearA_ok (ty := o.type) hr hu hs hz hzc (hf.ev y) h
              refine ⟨ρ', w', v, .inl (hrun v w' ?_), h2, h3, h4⟩
              rw [args1 hargs, types1 htypes]
              simp only [builtin]
              exact v_run' (by simpa using h1)
            · cases h
          · cases h
        · cases h
      · cases h

/-- What a call, or a panic, does. -/
theorem call_ok (hf : FR ρ fr a.tmps) (hG : SoundG P I Γ) {r : AEnd} {s' : AS} (h : aop P X Γ fr s o = .call (some (r, s'))) :
    (∃ x v, r = .pan x ∧ s' = s ∧ (execOp a.eval o).run P w = .halt (.panic v) w ∧ VR ρ x v) ∨
    (∃ f args vargs, Γ f args s = some (r, s') ∧ VRL ρ args vargs.toList ∧ (execOp a.eval o).run P w = .ok (.enter f vargs) w) := by
  cases ho : o.op <;> simp only [aop, ho, reduceCtorEq, OpR.call.injEq] at h
  case panic y =>
    left
    have hy := hf.ev y
    unfold panA at h
    split at h
    · rename_i t x he
      cases h
      rw [he] at hy
      generalize hv : a.eval y = v at hy
      cases hy with
      | iface hx =>
        exact ⟨_, _, rfl, rfl, by simp [execOp, ho, hv, Instr.panic], .iface hx⟩
    · cases h
  case call c =>
    right
    split at h
    · rename_i f hcal
      split at h
      · split at h <;> cases h
      · simp only [OpR.call.injEq] at h
        refine ⟨f, _, c.args.map a.eval, h, by simpa using hf.evs c.args.toList, ?_⟩
        simp only [execOp, ho, resolve, hcal, Sem.run_bind]
        have h3 : (Deferred.ofValue (a.eval (.func f)) (c.args.map a.eval)).run P w = .ok { target := .fn (.func f) #[], args := c.args.map a.eval } w := by
          simp [Deferred.ofValue, Act.eval]
        rw [h3, Result.andThen_ok]
        simp only [invoke, Array.append_empty]
        exact (hG _ _ _ _ _ h).1 _ _
    · rename_i g hng hcal
      simp only [OpR.call.injEq] at h
      have hg := hf.ev g
      unfold callV at h
      split at h
      · rename_i f cap he
        rw [he] at hg
        generalize hv : a.eval g = v at hg
        cases hg with
        | func hc =>
          rename_i vs
          refine ⟨f, _, c.args.map a.eval ++ vs, h, by simpa using (hf.evs c.args.toList).append hc, ?_⟩
          simp only [execOp, ho, resolve, hcal, Sem.run_bind, hv]
          have h3 : (Deferred.ofValue (.func (.func f) #[] vs) (c.args.map a.eval)).run P w = .ok { target := .fn (.func f) vs, args := c.args.map a.eval } w := by
            simp [Deferred.ofValue]
          rw [h3, Result.andThen_ok]
          simp only [invoke]
          exact (hG _ _ _ _ _ h).1 _ _
      · cases h
    · cases h
    · split at h
      · split at h
        · split at h
          · split at h
            · split at h <;> cases h
            · cases h
          · cases h
        · cases h
      · split at h <;> cases h
      · cases h
      · cases h
      · split at h
        · split at h
          · split at h <;> cases h
          · cases h
        · cases h
      · cases h
  all_goals (repeat' (split at h)) <;> cases h
end
end Go.Ex
/-! # Pieces of code -/
namespace Go.Ex
open Go.RowKit

theorem hasBit_eq (m i : Nat) : hasBit m i = m.testBit i := by
  unfold hasBit
  rw [Nat.testBit_eq_decide_div_mod_eq]
  by_cases h : m / 2 ^ i % 2 = 1
  · rw [h]; simp
  · have : Nat.beq (m / 2 ^ i % 2) 1 = false := by
      cases hq : Nat.beq (m / 2 ^ i % 2) 1 with
      | false => rfl
      | true => exact absurd (Nat.eq_of_beq_eq_true hq) h
    rw [this]; simp [h]
theorem hasBit_or (a b i : Nat) : hasBit (a ||| b) i = (hasBit a i || hasBit b i) := by simp [hasBit_eq]
theorem hasBit_pow (d i : Nat) : hasBit (2 ^ d) i = decide (d = i) := by rw [hasBit_eq, Nat.testBit_two_pow]
theorem wrOps_bit (l : List Oper) (m i : Nat) : hasBit (l.foldl (fun m o => m ||| wrOp o) m) i = true ↔ hasBit m i = true ∨ ∃ o ∈ l, o.dst = some i := by
  induction l generalizing m with
  | nil => simp
  | cons o l ih =>
    simp only [List.foldl_cons, ih, hasBit_or, Bool.or_eq_true, List.mem_cons, exists_eq_or_imp]
    have : hasBit (wrOp o) i = true ↔ o.dst = some i := by
      unfold wrOp
      cases o.dst with
      | none => simp [hasBit_eq]
      | some d => simp [bit, hasBit_pow]
    rw [this, or_assoc]

section
variable {P : Program} {X : FuncId → Bool} {Γ : Gam} {I : Nat → World → Prop} {base : Nat} {w0 : World}

theorem FR.mono {ρ ρ' : Loc} {fr : Frm} {t : Array Value} (h : FR ρ fr t) (hr : LExt ρ ρ') : FR ρ' fr t := fun i => (h i).mono hr
theorem FR.put {ρ : Loc} {fr : Frm} {a : Act} (h : FR ρ fr a.tmps) {d : Option Tmp} {x : AV} {v : Value} (hv : VR ρ x v) (hd : ∀ i, d = some i → i < a.tmps.size) : FR ρ (fr.put d x) (a.put d v).tmps := by
  cases d with
  | none => exact h
  | some d =>
    intro i
    have hlt := hd d rfl
    simp only [Frm.put, Act.put]
    by_cases e : i = d
    · subst e
      simp [hlt, hv]
    · have h1 : Nat.beq i d = false := by
        cases hq : Nat.beq i d with
        | false => rfl
        | true => exact absurd (Nat.eq_of_beq_eq_true hq) e
      rw [h1]
      have h2 : (a.tmps.setIfInBounds d v).getD i undef = a.tmps.getD i undef := by
        simp [Array.getD_eq_getD_getElem?, Array.getElem?_setIfInBounds, Ne.symm e]
      simp only [h2]
      exact h i
theorem put_size (a : Act) (d : Option Tmp) (v : Value) : (a.put d v).tmps.size = a.tmps.size := by cases d <;> simp [Act.put]
theorem put_defers (a : Act) (d : Option Tmp) (v : Value) : (a.put d v).defers = a.defers := by cases d <;> rfl
theorem put_other (a : Act) (d : Option Tmp) (v : Value) (i : Nat) (h : d ≠ some i) : (a.put d v).tmps.getD i undef = a.tmps.getD i undef := by
  cases d with
  | none => rfl
  | some d =>
    have : d ≠ i := fun e => h (by rw [e])
    simp [Act.put, Array.getD_eq_getD_getElem?, Array.getElem?_setIfInBounds, this]
theorem undef_VR {ρ : Loc} : VR ρ (.tup []) undef := .tup .nil

/-- The guard's value. -/
theorem grd_wanted {ρ : Loc} {fr : Frm} {a : Act} {ops : Array Oper} {o : Oper} (hf : FR ρ fr a.tmps) :
    (grd ops fr o = some none → Region.wanted o (yielded ops a.tmps) = true) ∧
    (∀ g want, grd ops fr o = some (some (g, want)) → (∀ b, g = .bool b → Region.wanted o (yielded ops a.tmps) = (b == want)) ∧ (g = .tup [] → Region.wanted o (yielded ops a.tmps) = false)) := by
  unfold grd Region.wanted
  cases hg : o.guard with
  | none => exact ⟨fun _ => rfl, fun g want h => by cases h⟩
  | some jw =>
    obtain ⟨j, want⟩ := jw
    simp only
    refine ⟨(fun h => by split at h <;> cases h), fun g want' h => ?_⟩
    split at h
    · rename_i t ht
      cases h
      have hy : ∀ v, a.tmps.getD t undef = v → yielded ops a.tmps j = match v with | .bool b => some b | _ => none := by
        intro v hv
        unfold gslot at ht
        unfold yielded
        split at ht
        · rename_i oj hoj
          rw [hoj]
          simp only [Option.bind_some, ht]
          rw [Array.getD_eq_getD_getElem?] at hv
          cases hq : a.tmps[t]? with
          | none => rw [hq] at hv; simp at hv; subst hv; rfl
          | some u => rw [hq] at hv; simp at hv; subst hv; cases u <;> rfl
        · cases ht
      have ht2 := hf t
      refine ⟨fun b hb => ?_, fun hb => ?_⟩
      · rw [hb] at ht2
        rw [hy _ ht2.bool_inv]
        cases b <;> cases want <;> rfl
      · rw [hb] at ht2
        generalize hv : a.tmps.getD t undef = v at ht2
        cases ht2
        rw [hy _ hv]
        rfl
    · cases h

/-- One operation of a region, its guard asked. -/
theorem op_sound (hX : SoundX P X) (hG : SoundG P I Γ) {ρ : Loc} {s : AS} {w : World} {fr : Frm} {a : Act} {ops : Array Oper} {o : Oper} {k kp : AV → AS → Res} {res : Ex × List AV × AS} {K : Act → World → Prop} {Q : Exit → Act → World → Prop}
    (hI : I base w0) (hr : Rel P base w0 ρ s w) (hf : FR ρ fr a.tmps) (h : opK ops fr s o (aop P X Γ fr s o) k kp = some res)
    (next : ∀ ρ' s' w' x v, Rel P base w0 ρ' s' w' → Step ρ s w ρ' s' w' → VR ρ' x v → k x s' = some res → K (a.put o.dst v) w')
    (pan : ∀ ρ' s' w' x v, Rel P base w0 ρ' s' w' → Step ρ s w ρ' s' w' → VR ρ' x v → kp x s' = some res → Q (.panic [{ v, recovered := false }]) a w') :
    if Region.wanted o (yielded ops a.tmps) = true then o.wp P a w K Q else K (a.put o.dst undef) w := by
  obtain ⟨hg0, hg1⟩ := grd_wanted (ρ := ρ) (ops := ops) (o := o) hf
  have pure_ : ∀ x, aop P X Γ fr s o = .pure (some x) → k x s = some res → o.wp P a w K Q := by
    intro x hx hk
    obtain ⟨v, h1, h2⟩ := pure_ok hX hr hf hx
    unfold Oper.wp
    rw [h1]
    exact next ρ s w x v hr (Step.refl _ _ _) h2 hk
  have st_ : ∀ x s', aop P X Γ fr s o = .st (some (x, s')) → k x s' = some res → o.wp P a w K Q := by
    intro x s' hx hk
    obtain ⟨ρ', w', v, h1, h2, h3, h4⟩ := st_ok hr hf hx
    unfold Oper.wp
    rcases h1 with h1 | ⟨h1, rfl⟩
    · rw [h1]; exact next ρ' s' w' x v h2 h3 h4 hk
    · rw [h1]; exact next ρ' s' w' x undef h2 h3 h4 hk
  have call_ : ∀ r, aop P X Γ fr s o = .call (some r) → bC (some r) k kp = some res → o.wp P a w K Q := by
    intro r hx hk
    obtain ⟨r, s'⟩ := r
    unfold Oper.wp
    rcases call_ok (w := w) hf hG hx with ⟨x, v, rfl, rfl, h1, h2⟩ | ⟨f, args, vargs, h1, h2, h3⟩
    · rw [h1]
      exact pan ρ s' w x v hr (Step.refl _ _ _) h2 hk
    · rw [h3]
      simp only [Oper.upon]
      refine Calls.mono ((hG f args s r s' h1).2 base w0 ρ w vargs hI hr h2) ?_
      rintro e w' ⟨ρ', h4, h5, h6⟩
      cases r with
      | ret x =>
        cases e with
        | returned v => exact next ρ' s' w' x v h4 h5 h6 hk
        | panicked c => exact h6.elim
        | outgrown => exact h6.elim
      | pan x =>
        cases e with
        | returned v => exact h6.elim
        | outgrown => exact h6.elim
        | panicked c =>
          unfold EndR at h6
          split at h6
          · rename_i h7; cases h7
          · rename_i h7 h8; cases h7; cases h8
            exact pan ρ' s' w' _ _ h4 h5 h6 hk
          · exact h6.elim
  unfold opK at h
  split at h
  · cases h
  · rename_i hg
    rw [if_pos (hg0 hg)]
    cases hx : aop P X Γ fr s o with
    | pure y =>
      rw [hx] at h
      cases y with
      | none => simp [bO] at h
      | some x => exact pure_ x hx h
    | st y =>
      rw [hx] at h
      cases y with
      | none => simp [bS] at h
      | some x => obtain ⟨x, s'⟩ := x; exact st_ x s' hx h
    | call y =>
      rw [hx] at h
      cases y with
      | none => simp [bC] at h
      | some r => exact call_ r hx h
  · rename_i g want hg
    obtain ⟨hb, ht⟩ := hg1 g want hg
    have unw : k (.tup []) s = some res → Region.wanted o (yielded ops a.tmps) = false → if Region.wanted o (yielded ops a.tmps) = true then o.wp P a w K Q else K (a.put o.dst undef) w := by
      intro hk hw
      rw [hw, if_neg (by simp)]
      exact next ρ s w (.tup []) undef hr (Step.refl _ _ _) undef_VR hk
    cases hx : aop P X Γ fr s o with
    | pure y =>
      rw [hx] at h
      simp only [gO, bEq_eq] at h
      split at h
      · rename_i b
        cases hbw : b == want with
        | true =>
          rw [hbw] at h
          rw [hb b rfl, hbw, if_pos rfl]
          cases y with
          | none => simp [bO] at h
          | some x => exact pure_ x hx h
        | false =>
          rw [hbw] at h
          exact unw h (by rw [hb b rfl, hbw])
      · exact unw h (ht rfl)
      · simp [bO] at h
    | st y =>
      rw [hx] at h
      simp only [gS, bEq_eq] at h
      split at h
      · rename_i b
        cases hbw : b == want with
        | true =>
          rw [hbw] at h
          rw [hb b rfl, hbw, if_pos rfl]
          cases y with
          | none => simp [bS] at h
          | some x => obtain ⟨x, s'⟩ := x; exact st_ x s' hx h
        | false =>
          rw [hbw] at h
          exact unw h (by rw [hb b rfl, hbw])
      · exact unw h (ht rfl)
      · simp [bS] at h
    | call y =>
      rw [hx] at h
      simp only [gC, bEq_eq] at h
      split at h
      · rename_i b
        cases hbw : b == want with
        | true =>
          rw [hbw] at h
          rw [hb b rfl, hbw, if_pos rfl]
          cases y with
          | none => simp [bC] at h
          | some r => exact call_ r hx h
        | false =>
          rw [hbw] at h
          exact unw h (by rw [hb b rfl, hbw])
      · exact unw h (ht rfl)
      · simp [bC] at h
end
end Go.Ex
/-! # Regions in their order, and all code but regions of open order -/
namespace Go.Ex
open Go.RowKit

/-- What is known behind a piece of code that writes slots of m alone. -/
structure After (P : Program) (base : Nat) (w0 : World) (ρ : Loc) (s : AS) (w : World) (a : Act) (m : Nat → Prop) (ρ' : Loc) (s' : AS) (w' : World) (a' : Act) : Prop where
  rel : Rel P base w0 ρ' s' w'
  step : Step ρ s w ρ' s' w'
  size : a'.tmps.size = a.tmps.size
  defers : a'.defers = a.defers
  other : ∀ i, ¬ m i → a'.tmps.getD i undef = a.tmps.getD i undef

section
variable {P : Program} {base : Nat} {w0 : World}

theorem After.refl {ρ : Loc} {s : AS} {w : World} {a : Act} {m : Nat → Prop} (h : Rel P base w0 ρ s w) : After P base w0 ρ s w a m ρ s w a := ⟨h, Step.refl _ _ _, rfl, rfl, fun _ _ => rfl⟩
theorem After.trans {ρ ρ1 ρ2 : Loc} {s s1 s2 : AS} {w w1 w2 : World} {a a1 a2 : Act} {m m1 m2 : Nat → Prop} (h : After P base w0 ρ s w a m1 ρ1 s1 w1 a1) (k : After P base w0 ρ1 s1 w1 a1 m2 ρ2 s2 w2 a2)
    (h1 : ∀ i, m1 i → m i) (h2 : ∀ i, m2 i → m i) : After P base w0 ρ s w a m ρ2 s2 w2 a2 :=
  ⟨k.rel, h.step.trans k.step, k.size.trans h.size, k.defers.trans h.defers, fun i hi => (k.other i (fun e => hi (h2 i e))).trans (h.other i (fun e => hi (h1 i e)))⟩

/-- The ways by which a piece of code is left but at its end. -/
structure Leave (P : Program) (base : Nat) (w0 : World) (ρ : Loc) (s : AS) (w : World) (a : Act) (m : Nat → Prop) (W : List Nat) (res : Ex × List AV × AS) (Q : Exit → Act → World → Prop) : Prop where
  exit : ∀ i ρ' fr' s' w' a', After P base w0 ρ s w a m ρ' s' w' a' → FR ρ' fr' a'.tmps → res = (.exit i, W.map fr', s') → Q (.exit i) a' w'
  ret : ∀ ρ' fr' s' w' a', After P base w0 ρ s w a m ρ' s' w' a' → FR ρ' fr' a'.tmps → res = (.ret, W.map fr', s') → Q .ret a' w'
  pan : ∀ x vs v ρ' s' w' a', After P base w0 ρ s w a m ρ' s' w' a' → VR ρ' x v → res = (.pan x, vs, s') → Q (.panic [{ v, recovered := false }]) a' w'

theorem Leave.of {ρ ρ1 : Loc} {s s1 : AS} {w w1 : World} {a a1 : Act} {m m1 m2 : Nat → Prop} {W : List Nat} {res : Ex × List AV × AS} {Q : Exit → Act → World → Prop} (h : Leave P base w0 ρ s w a m W res Q)
    (k : After P base w0 ρ s w a m1 ρ1 s1 w1 a1) (h1 : ∀ i, m1 i → m i) (h2 : ∀ i, m2 i → m i) : Leave P base w0 ρ1 s1 w1 a1 m2 W res Q :=
  ⟨fun i ρ' fr' s' w' a' ha hf he => h.exit i ρ' fr' s' w' a' (k.trans ha h1 h2) hf he, fun ρ' fr' s' w' a' ha hf he => h.ret ρ' fr' s' w' a' (k.trans ha h1 h2) hf he,
   fun x vs v ρ' s' w' a' ha hv he => h.pan x vs v ρ' s' w' a' (k.trans ha h1 h2) hv he⟩

variable {E : Env} {I : Nat → World → Prop}

def wrL (l : List Oper) (i : Nat) : Prop := ∃ o ∈ l, o.dst = some i

theorem opsK_sound (hP : E.P = P) (hX : SoundX P E.X) (hG : SoundG P I E.Γ) (hI : I base w0) {ops : Array Oper} {Q : Exit → Act → World → Prop} {W : List Nat} {res : Ex × List AV × AS} {k : Frm → AS → Res} :
    ∀ (l : List Oper) (i : Nat) (ρ : Loc) (s : AS) (w : World) (fr : Frm) (a : Act), ops.toList.drop i = l → opsK E ops l fr s k = some res → Rel P base w0 ρ s w → FR ρ fr a.tmps → (∀ j, wrL l j → j < a.tmps.size) →
      (∀ ρ' fr' s' w' a', After P base w0 ρ s w a (wrL l) ρ' s' w' a' → FR ρ' fr' a'.tmps → k fr' s' = some res → Q .normal a' w') →
      Leave P base w0 ρ s w a (wrL l) W res Q → wpOps P ops Q (List.range' i l.length) a w
  | [], i, ρ, s, w, fr, a, _, h, hr, hf, _, hn, _ => hn ρ fr s w a (After.refl hr) hf h
  | o :: l, i, ρ, s, w, fr, a, hd, h, hr, hf, hw, hn, hl => by
    have ho : ops[i]? = some o := by
      have h1 : (ops.toList.drop i)[0]? = some o := by rw [hd]; rfl
      rw [List.getElem?_drop] at h1
      simpa using h1
    have hd' : ops.toList.drop (i + 1) = l := by
      rw [← List.drop_drop, hd]
      rfl
    have ih := opsK_sound hP hX hG hI (ops := ops) (Q := Q) (W := W) (res := res) (k := k) l (i + 1)
    have hsub : ∀ j, wrL l j → wrL (o :: l) j := fun j ⟨q, hq, e⟩ => ⟨q, List.mem_cons_of_mem _ hq, e⟩
    rw [opsK_cons] at h
    subst hP
    simp only [List.length_cons, List.range'_succ, wpOps, ho]
    have hon : ∀ j, o.dst = some j → wrL (o :: l) j := fun j e => ⟨o, List.mem_cons_self .., e⟩
    have stepA : ∀ {ρ' : Loc} {s' : AS} {w' : World} (v : Value), Rel E.P base w0 ρ' s' w' → Step ρ s w ρ' s' w' → After E.P base w0 ρ s w a (fun j => o.dst = some j) ρ' s' w' (a.put o.dst v) :=
      fun v h1 h2 => ⟨h1, h2, put_size _ _ _, put_defers _ _ _, fun j hj => put_other a o.dst v j hj⟩
    have key := op_sound (K := wpOps E.P ops Q (List.range' (i + 1) l.length)) (Q := Q) hX hG hI hr hf h
      (fun ρ' s' w' x v h1 h2 h3 h4 => ih ρ' s' w' (fr.put o.dst x) (a.put o.dst v) hd' h4 h1 ((hf.mono (h2.ext hr)).put h3 (fun j e => hw j (hon j e))) (fun j hj => by rw [put_size]; exact hw j (hsub j hj))
        (fun ρ2 fr2 s2 w2 a2 h5 h6 h7 => hn ρ2 fr2 s2 w2 a2 ((stepA v h1 h2).trans h5 hon hsub) h6 h7)
        (hl.of (stepA v h1 h2) hon hsub))
      (fun ρ' s' w' x v h1 h2 h3 h4 => by
        simp only [Option.some.injEq] at h4
        exact hl.pan x [] v ρ' s' w' a ⟨h1, h2, rfl, rfl, fun _ _ => rfl⟩ h3 h4.symm)
    cases hwd : Region.wanted o (yielded ops a.tmps) with
    | true => rw [hwd, if_pos rfl] at key; rw [if_pos rfl]; exact .inl key
    | false => rw [hwd, if_neg (by simp)] at key; rw [if_neg (by simp)]; exact key

theorem bJ_inv {r : Res} {kn : List AV → AS → Res} {ke : Ex → List AV → AS → Res} {res : Ex × List AV × AS} (h : bJ r kn ke = some res) :
    ∃ e vs s', r = some (e, vs, s') ∧ ((e = .normal ∧ kn vs s' = some res) ∨ (e ≠ .normal ∧ ke e vs s' = some res)) := by
  unfold bJ at h
  split at h
  · cases h
  · exact ⟨_, _, _, rfl, .inl ⟨rfl, h⟩⟩
  · exact ⟨_, _, _, rfl, .inr ⟨by simp, h⟩⟩
  · exact ⟨_, _, _, rfl, .inr ⟨by simp, h⟩⟩
  · exact ⟨_, _, _, rfl, .inr ⟨by simp, h⟩⟩
theorem bX_inv {id : Nat} {r : Res} {kn : List AV → AS → Res} {ke : Ex → List AV → AS → Res} {res : Ex × List AV × AS} (h : bX id r kn ke = some res) :
    ∃ e vs s', r = some (e, vs, s') ∧ (((e = .normal ∨ e = .exit id) ∧ kn vs s' = some res) ∨ (e ≠ .normal ∧ e ≠ .exit id ∧ ke e vs s' = some res)) := by
  unfold bX at h
  split at h
  · cases h
  · exact ⟨_, _, _, rfl, .inl ⟨.inl rfl, h⟩⟩
  · split at h
    · rename_i hb
      obtain rfl := Nat.eq_of_beq_eq_true hb
      exact ⟨_, _, _, rfl, .inl ⟨.inr rfl, h⟩⟩
    · rename_i hb
      have := Nat.ne_of_beq_eq_false hb
      exact ⟨_, _, _, rfl, .inr ⟨by simp, by simpa using this, h⟩⟩
  · exact ⟨_, _, _, rfl, .inr ⟨by simp, by simp, h⟩⟩
  · exact ⟨_, _, _, rfl, .inr ⟨by simp, by simp, h⟩⟩

theorem place_nth (f : Nat → AV) (i : Nat) : ∀ (V : List Nat) (m n : Nat), place i V m = some n → m ≤ n ∧ nth (V.map f) (n - m) = f i
  | [], m, n, h => by simp [place] at h
  | j :: V, m, n, h => by
    simp only [place] at h
    split at h
    · rename_i hb
      cases h
      obtain rfl := Nat.eq_of_beq_eq_true hb
      simp [nth]
    · obtain ⟨h1, h2⟩ := place_nth f i V (m + 1) n h
      refine ⟨by omega, ?_⟩
      have e : n - m = (n - (m + 1)) + 1 := by omega
      rw [e]
      simpa [nth] using h2

/-- The frame behind a piece of code. -/
theorem FR.upd {ρ ρ' : Loc} {fr fr' : Frm} {a a' : Act} {m : Nat} {V : List Nat} (hf : FR ρ fr a.tmps) (hr : LExt ρ ρ') (hf' : FR ρ' fr' a'.tmps) (ho : ∀ i, ¬ hasBit m i = true → a'.tmps.getD i undef = a.tmps.getD i undef) :
    FR ρ' (fr.upd m V (V.map fr')) a'.tmps := by
  intro i
  unfold Frm.upd
  split
  · rename_i n hn
    obtain ⟨-, h2⟩ := place_nth fr' i V 0 n hn
    rw [Nat.sub_zero] at h2
    rw [h2]
    exact hf' i
  · split
    · exact .poison _
    · rename_i hb
      rw [ho i (by rw [hb]; simp)]
      exact (hf i).mono hr

theorem cnd_inv {v : AV} {x y : Res} {r : Ex × List AV × AS} (h : cnd v x y = some r) : ∃ b, v = .bool b ∧ (if b = true then x else y) = some r := by
  unfold cnd at h
  split at h
  · exact ⟨true, rfl, h⟩
  · exact ⟨false, rfl, h⟩
  · cases h

/-- What is asked of a region of open order. -/
def DrawSound (E : Env) (I : Nat → World → Prop) : Prop := ∀ (id : Nat) (ops : Array Oper) (base : Nat) (w0 : World) (ρ : Loc) (s : AS) (w : World) (fr : Frm) (a : Act) (k : Frm → AS → Res) (res : Ex × List AV × AS) (W : List Nat) (Q : Exit → Act → World → Prop),
  I base w0 → regK E ops fr s k = some res → Rel E.P base w0 ρ s w → FR ρ fr a.tmps → (∀ j, wrL ops.toList j → j < a.tmps.size) →
  (∀ ρ' fr' s' w' a', After E.P base w0 ρ s w a (wrL ops.toList) ρ' s' w' a' → FR ρ' fr' a'.tmps → k fr' s' = some res → Q .normal a' w') →
  Leave E.P base w0 ρ s w a (wrL ops.toList) W res Q → (Code.region id ops true).wp E.P Q a w

def wrC (c : Code) (i : Nat) : Prop := hasBit (wr c) i = true

theorem codeK_sound (hX : SoundX E.P E.X) (hG : SoundG E.P I E.Γ) (hI : I base w0) (hD : DrawSound E I) : ∀ (c : Code) (W : List Nat) (live : Nat) (fr : Frm) (s : AS) (k : Frm → AS → Res) (res : Ex × List AV × AS) (ρ : Loc) (w : World) (a : Act) (Q : Exit → Act → World → Prop),
    codeK E W live c fr s k = some res → Rel E.P base w0 ρ s w → FR ρ fr a.tmps → (∀ j, wrC c j → j < a.tmps.size) →
    (∀ ρ' fr' s' w' a', After E.P base w0 ρ s w a (wrC c) ρ' s' w' a' → FR ρ' fr' a'.tmps → k fr' s' = some res → Q .normal a' w') →
    Leave E.P base w0 ρ s w a (wrC c) W res Q → c.wp E.P Q a w := by
  intro c
  induction c with
  | skip => intro W live fr s k res ρ w a Q h hr hf _ hn _; exact wp_skip (hn ρ fr s w a (After.refl hr) hf h)
  | label l => intro W live fr s k res ρ w a Q h hr hf _ hn _; exact wp_label (hn ρ fr s w a (After.refl hr) hf h)
  | region id ops d =>
    intro W live fr s k res ρ w a Q h hr hf hw hn hl
    have hwr : ∀ j, wrC (.region id ops d) j ↔ wrL ops.toList j := by
      intro j
      unfold wrC wrL
      rw [wr, wrOps_bit]
      simp [hasBit_eq]
    have hwr' : wrC (.region id ops d) = wrL ops.toList := funext fun j => propext (hwr j)
    rw [hwr'] at hw hn hl
    cases d with
    | false =>
      refine wp_region ?_
      have := opsK_sound (W := W) rfl hX hG hI ops.toList 0 ρ s w fr a rfl h hr hf hw hn hl
      rwa [Array.length_toList, ← List.range_eq_range'] at this
    | true => exact hD id ops base w0 ρ s w fr a k res W Q hI h hr hf hw hn hl
  | seq x y ihx ihy =>
    intro W live fr s k res ρ w a Q h hr hf hw hn hl
    have h1 : ∀ i, wrC x i → wrC (.seq x y) i := fun i hi => by unfold wrC at *; rw [wr, hasBit_or, hi]; rfl
    have h2 : ∀ i, wrC y i → wrC (.seq x y) i := fun i hi => by unfold wrC at *; rw [wr, hasBit_or, hi]; simp
    refine wp_seq (ihx W _ fr s _ res ρ w a _ h hr hf (fun j hj => hw j (h1 j hj)) (fun ρ' fr' s' w' a' ha hf' hk => ?_) ?_)
    · exact ihy W live fr' s' k res ρ' w' a' Q hk ha.rel hf' (fun j hj => by rw [ha.size]; exact hw j (h2 j hj)) (fun ρ2 fr2 s2 w2 a2 hb hf2 hk2 => hn ρ2 fr2 s2 w2 a2 (ha.trans hb h1 h2) hf2 hk2) (hl.of ha h1 h2)
    · have := hl.of (After.refl hr (m := wrC x)) h1 h1
      exact ⟨this.exit, this.ret, this.pan⟩
  | cond cc x y ihx ihy =>
    intro W live fr s k res ρ w a Q h hr hf hw hn hl
    simp only [codeK] at h
    obtain ⟨e, vs, s', hres, hcase⟩ := bJ_inv h
    obtain ⟨b, hb, hbr⟩ := cnd_inv hres
    have hc := hf.ev cc
    rw [hb] at hc
    have hm : ∀ i, hasBit (wr x ||| wr y) i = true ↔ wrC (.cond cc x y) i := fun i => Iff.rfl
    have h1 : ∀ i, wrC x i → wrC (.cond cc x y) i := fun i hi => by unfold wrC at *; rw [wr, hasBit_or, hi]; rfl
    have h2 : ∀ i, wrC y i → wrC (.cond cc x y) i := fun i hi => by unfold wrC at *; rw [wr, hasBit_or, hi]; simp
    have inner : ∀ (c : Code), (∀ i, wrC c i → wrC (.cond cc x y) i) → (∀ ρ' fr' s2 w' a', After E.P base w0 ρ s w a (wrC c) ρ' s2 w' a' → FR ρ' fr' a'.tmps → out .normal (bits ((wr x ||| wr y) &&& live)) fr' s2 = some (e, vs, s') → Q .normal a' w') ∧
        Leave E.P base w0 ρ s w a (wrC c) (bits ((wr x ||| wr y) &&& live)) (e, vs, s') Q := by
      intro c hsub
      have updF : ∀ {ρ' : Loc} {fr' : Frm} {s2 : AS} {w' : World} {a' : Act}, After E.P base w0 ρ s w a (wrC c) ρ' s2 w' a' → FR ρ' fr' a'.tmps → FR ρ' (fr.upd (wr x ||| wr y) (bits ((wr x ||| wr y) &&& live)) ((bits ((wr x ||| wr y) &&& live)).map fr')) a'.tmps :=
        fun ha hf' => hf.upd (ha.step.ext hr) hf' (fun i hi => ha.other i (fun hh => hi (hsub i hh)))
      refine ⟨fun ρ' fr' s2 w' a' ha hf' hk => ?_, fun i ρ' fr' s2 w' a' ha hf' hk => ?_, fun ρ' fr' s2 w' a' ha hf' hk => ?_, fun x vs' v ρ' s2 w' a' ha hv hk => ?_⟩
      · simp only [out, Option.some.injEq, Prod.mk.injEq] at hk
        obtain ⟨rfl, rfl, rfl⟩ := hk
        rcases hcase with ⟨-, hkn⟩ | ⟨hne, -⟩
        · exact hn ρ' _ _ w' a' ((After.refl hr (m := wrC c)).trans ha hsub hsub) (updF ha hf') hkn
        · exact absurd rfl hne
      · cases hk
        rcases hcase with ⟨hne, -⟩ | ⟨-, hke⟩
        · cases hne
        · simp only [out, Option.some.injEq] at hke
          exact hl.exit i ρ' _ _ w' a' ((After.refl hr (m := wrC c)).trans ha hsub hsub) (updF ha hf') hke.symm
      · cases hk
        rcases hcase with ⟨hne, -⟩ | ⟨-, hke⟩
        · cases hne
        · simp only [out, Option.some.injEq] at hke
          exact hl.ret ρ' _ _ w' a' ((After.refl hr (m := wrC c)).trans ha hsub hsub) (updF ha hf') hke.symm
      · cases hk
        rcases hcase with ⟨hne, -⟩ | ⟨-, hke⟩
        · cases hne
        · simp only [out, Option.some.injEq] at hke
          exact hl.pan x _ v ρ' _ w' a' ((After.refl hr (m := wrC c)).trans ha hsub hsub) hv hke.symm
    refine wp_cond (t := b) hc.bool_inv ?_
    cases b with
    | true =>
      obtain ⟨i1, i2⟩ := inner x h1
      exact ihx _ live fr s _ (e, vs, s') ρ w a Q hbr hr hf (fun j hj => hw j (h1 j hj)) i1 i2
    | false =>
      obtain ⟨i1, i2⟩ := inner y h2
      exact ihy _ live fr s _ (e, vs, s') ρ w a Q hbr hr hf (fun j hj => hw j (h2 j hj)) i1 i2
  | block id c ih =>
    intro W live fr s k res ρ w a Q h hr hf hw hn hl
    simp only [codeK] at h
    obtain ⟨e, vs, s', hres, hcase⟩ := bX_inv h
    have updF : ∀ {ρ' : Loc} {fr' : Frm} {s2 : AS} {w' : World} {a' : Act}, After E.P base w0 ρ s w a (wrC c) ρ' s2 w' a' → FR ρ' fr' a'.tmps → FR ρ' (fr.upd (wr c) (bits (wr c &&& live)) ((bits (wr c &&& live)).map fr')) a'.tmps :=
      fun ha hf' => hf.upd (ha.step.ext hr) hf' (fun i hi => ha.other i hi)
    refine wp_block (ih _ live fr s _ (e, vs, s') ρ w a _ hres hr hf hw (fun ρ' fr' s2 w' a' ha hf' hk => ?_) ⟨fun i ρ' fr' s2 w' a' ha hf' hk => ?_, fun ρ' fr' s2 w' a' ha hf' hk => ?_, fun x vs' v ρ' s2 w' a' ha hv hk => ?_⟩)
    · simp only [out, Option.some.injEq, Prod.mk.injEq] at hk
      obtain ⟨rfl, rfl, rfl⟩ := hk
      rcases hcase with ⟨-, hkn⟩ | ⟨hne, -⟩
      · exact hn ρ' _ _ w' a' ha (updF ha hf') hkn
      · exact absurd rfl hne
    · cases hk
      rcases hcase with ⟨he, hkn⟩ | ⟨-, hne, hke⟩
      · rcases he with he | he
        · cases he
        · cases he
          simp only [Exit.inBlock, if_true]
          exact hn ρ' _ _ w' a' ha (updF ha hf') hkn
      · simp only [out, Option.some.injEq] at hke
        have hii : i ≠ id := fun e => hne (by rw [e])
        simp only [Exit.inBlock, hii, if_false]
        exact hl.exit i ρ' _ _ w' a' ha (updF ha hf') hke.symm
    · cases hk
      rcases hcase with ⟨he, hkn⟩ | ⟨-, hne, hke⟩
      · rcases he with he | he <;> cases he
      · simp only [out, Option.some.injEq] at hke
        exact hl.ret ρ' _ _ w' a' ha (updF ha hf') hke.symm
    · cases hk
      rcases hcase with ⟨he, hkn⟩ | ⟨-, hne, hke⟩
      · rcases he with he | he <;> cases he
      · simp only [out, Option.some.injEq] at hke
        exact hl.pan x _ v ρ' _ w' a' ha hv hke.symm
  | loop c ih =>
    intro W live fr s k res ρ w a Q h hr hf hw hn hl
    simp only [codeK] at h
    obtain ⟨e, vs, s', hres, hcase⟩ := bJ_inv h
    rcases hcase with ⟨-, hk⟩ | ⟨hne, hke⟩
    · cases hk
    · have updF : ∀ {ρ' : Loc} {fr' : Frm} {s2 : AS} {w' : World} {a' : Act}, After E.P base w0 ρ s w a (wrC c) ρ' s2 w' a' → FR ρ' fr' a'.tmps → FR ρ' (fr.upd (wr c) (bits (wr c &&& (rd c ||| live))) ((bits (wr c &&& (rd c ||| live))).map fr')) a'.tmps :=
        fun ha hf' => hf.upd (ha.step.ext hr) hf' (fun i hi => ha.other i hi)
      refine wp_loop_rounds E.lf ?_
      -- every round
      have key : ∀ (n : Nat) (ρ1 : Loc) (s1 : AS) (w1 : World) (a1 : Act) (fr1 : Frm), iter n (fun vs s => codeK E (bits (wr c &&& (rd c ||| live))) (rd c ||| live) c (fr.upd (wr c) (bits (wr c &&& (rd c ||| live))) vs) s (out .normal (bits (wr c &&& (rd c ||| live))))) ((bits (wr c &&& (rd c ||| live))).map fr1) s1 = some (e, vs, s') →
          After E.P base w0 ρ s w a (wrC c) ρ1 s1 w1 a1 → FR ρ1 fr1 a1.tmps → Code.rounds E.P c Q n a1 w1 := by
        intro n
        induction n with
        | zero => intro ρ1 s1 w1 a1 fr1 hi _ _; simp [iter] at hi
        | succ n ihn =>
          intro ρ1 s1 w1 a1 fr1 hi ha hf1
          rw [rounds_succ]
          have hfu := updF ha hf1
          simp only [iter] at hi
          have hsz : ∀ j, wrC c j → j < a1.tmps.size := fun j hj => by rw [ha.size]; exact hw j hj
          -- the round's result
          obtain ⟨e1, vs1, s2, hround⟩ : ∃ e1 vs1 s2, codeK E (bits (wr c &&& (rd c ||| live))) (rd c ||| live) c (fr.upd (wr c) (bits (wr c &&& (rd c ||| live))) ((bits (wr c &&& (rd c ||| live))).map fr1)) s1 (out .normal (bits (wr c &&& (rd c ||| live)))) = some (e1, vs1, s2) := by
            split at hi
            · cases hi
            all_goals (rename_i hq; exact ⟨_, _, _, hq⟩)
          rw [hround] at hi
          refine ih _ _ _ s1 _ (e1, vs1, s2) ρ1 w1 a1 _ hround ha.rel hfu hsz (fun ρ' fr' s3 w' a' hb hf' hk => ?_) ⟨fun i ρ' fr' s3 w' a' hb hf' hk => ?_, fun ρ' fr' s3 w' a' hb hf' hk => ?_, fun x vs' v ρ' s3 w' a' hb hv hk => ?_⟩
          · simp only [out, Option.some.injEq, Prod.mk.injEq] at hk
            obtain ⟨rfl, rfl, rfl⟩ := hk
            exact ihn ρ' _ w' a' fr' hi (ha.trans hb (fun _ h => h) (fun _ h => h)) hf'
          · cases hk
            simp only [Option.some.injEq, Prod.mk.injEq] at hi
            obtain ⟨rfl, rfl, rfl⟩ := hi
            simp only [out, Option.some.injEq] at hke
            have hab := ha.trans hb (m := wrC c) (fun _ h => h) (fun _ h => h)
            exact hl.exit i ρ' _ _ w' a' hab (updF hab hf') hke.symm
          · cases hk
            simp only [Option.some.injEq, Prod.mk.injEq] at hi
            obtain ⟨rfl, rfl, rfl⟩ := hi
            simp only [out, Option.some.injEq] at hke
            have hab := ha.trans hb (m := wrC c) (fun _ h => h) (fun _ h => h)
            exact hl.ret ρ' _ _ w' a' hab (updF hab hf') hke.symm
          · cases hk
            simp only [Option.some.injEq, Prod.mk.injEq] at hi
            obtain ⟨rfl, rfl, rfl⟩ := hi
            simp only [out, Option.some.injEq] at hke
            have hab := ha.trans hb (m := wrC c) (fun _ h => h) (fun _ h => h)
            exact hl.pan x _ v ρ' _ w' a' hab hv hke.symm
      exact key E.lf ρ s w a fr hres (After.refl hr) hf
  | exit id =>
    intro W live fr s k res ρ w a Q h hr hf _ _ hl
    simp only [codeK, out, Option.some.injEq] at h
    exact wp_exit (hl.exit id ρ fr s w a (After.refl hr) hf h.symm)
  | ret =>
    intro W live fr s k res ρ w a Q h hr hf _ _ hl
    simp only [codeK, out, Option.some.injEq] at h
    exact wp_ret (hl.ret ρ fr s w a (After.refl hr) hf h.symm)
  | rangeFunc f params x y => intro W live fr s k res ρ w a Q h; simp [codeK] at h
  | scope c => intro W live fr s k res ρ w a Q h; simp [codeK] at h
  | goto l => intro W live fr s k res ρ w a Q h; simp [codeK] at h
  | refuse y => intro W live fr s k res ρ w a Q h; simp [codeK] at h
end
end Go.Ex
