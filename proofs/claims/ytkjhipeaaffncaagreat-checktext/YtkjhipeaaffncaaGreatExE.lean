/-
  Part of the proof of: The call of CheckText (libevolutionlaw07) returns true at every input. This text: an executor of the loaded code over abstract values, and its soundness.
  No condition: every input.
-/
import Derived.Test.YtkjhipeaaffncaaGreatExD
import Derived.Recover
import Derived.Lib.IndexMore
set_option linter.unusedVariables false
set_option linter.unusedSimpArgs false
/-! # Functions -/
namespace Go.Ex
open Go.RowKit

section
variable {P : Program} {base : Nat} {w0 w : World} {ρ : Loc} {s : AS}

def resV (tmps : Array Value) : ResultVar → Sem Value
  | .tmp t => pure (tmps.getD t undef)
  | .cell a t => do loadVar t (← asAddr (tmps.getD a undef))
theorem resOfS_rk (s : AS) (r : ResultVar) (v : AV) : resOfS s (rk P r) v = resOf P s r v := by
  cases r with
  | tmp t => rfl
  | cell a t =>
    simp only [rk, resOf]
    cases lk P t <;> rfl
theorem resLS_rk (s : AS) : ∀ (rs : List ResultVar) (vs : List AV), resLS s (rs.map (rk P)) vs = resL P s rs vs
  | [], [] => rfl
  | [], _ :: _ => rfl
  | _ :: _, [] => rfl
  | r :: rs, v :: vs => by
    simp only [List.map_cons, resLS, resL, resOfS_rk, resLS_rk s rs vs]
theorem fin_eq (rs : List ResultVar) (r : Res) : fin P rs r = finO P rs r := by
  unfold fin finS finO
  simp only [resLS_rk]
theorem resOf_ok (hr : Rel P base w0 ρ s w) {rv : ResultVar} {x y : AV} {tmps : Array Value} (hx : VR ρ x (tmps.getD (slotOf rv) undef)) (h : resOf P s rv x = some y) :
    ∃ u, (resV tmps rv).run P w = .ok u w ∧ VR ρ y u := by
  cases rv with
  | tmp t =>
    simp only [resOf, Option.some.injEq] at h
    subst h
    exact ⟨_, by simp only [resV, Sem.run_pure]; rfl, hx⟩
  | cell a t =>
    simp only [slotOf] at hx
    simp only [resOf] at h
    split at h
    · rename_i n hk
      obtain ⟨h1, h2⟩ := lk_agg (w := w) hk
      unfold ldA at h
      split at h
      · cases h
      · rename_i cs hl
        cases h
        obtain ⟨c, o, vs, hv, h3, h4, -, -⟩ := hr.loadN hx hl
        exact ⟨.agg vs, by simp [resV, hv, asAddr, loadVar, h1, run_size h2, h3], .agg h4⟩
    · rename_i hk
      have h1 := lk_one (w := w) hk
      unfold ld1 at h
      split at h
      · rename_i y r hl
        cases h
        obtain ⟨c, o, vs, hv, h3, h4, -, h6⟩ := hr.loadN hx hl
        obtain ⟨u, hu, hxu⟩ := h4.get (i := 0) rfl
        have h7 := h6 0 u (by simpa using hu)
        simp only [Nat.add_zero] at h7
        exact ⟨u, by simp [resV, hv, asAddr, loadVar, h1, h7], hxu⟩
      · cases h
    · cases h

theorem resL_ok (hr : Rel P base w0 ρ s w) {fr : Frm} {tmps : Array Value} (hf : FR ρ fr tmps) : ∀ (rs : List ResultVar) (l : List AV), resL P s rs ((rs.map slotOf).map fr) = some l →
    ∃ us, (rs.mapM (resV tmps)).run P w = .ok us w ∧ VRL ρ l us
  | [], l, h => by
    simp only [List.map_nil, resL, Option.some.injEq] at h
    subst h
    exact ⟨[], by simp, .nil⟩
  | rv :: rs, l, h => by
    simp only [List.map_cons, resL] at h
    split at h
    · rename_i x l' h1 h2
      cases h
      obtain ⟨u, hu, hxu⟩ := resOf_ok hr (hf _) h1
      obtain ⟨us, hus, hxs⟩ := resL_ok hr hf rs l' h2
      refine ⟨u :: us, ?_, .cons hxu hxs⟩
      rw [List.mapM_cons, Sem.run_bind]
      rw [hu, Result.andThen_ok, Sem.run_bind, hus, Result.andThen_ok]
      rfl
    · cases h

theorem results_ok (hr : Rel P base w0 ρ s w) {fn : Func} {fr : Frm} {tmps : Array Value} (hf : FR ρ fr tmps) {r : AEnd} {s' : AS}
    (h : resT (resL P s fn.results.toList ((fn.results.toList.map slotOf).map fr)) s = some (r, s')) : s' = s ∧ ∃ u, (results fn tmps).run P w = .ok u w ∧ EndR ρ r (.returned u) := by
  cases hl : resL P s fn.results.toList ((fn.results.toList.map slotOf).map fr) with
  | none => rw [hl] at h; simp [resT] at h
  | some l =>
    rw [hl] at h
    obtain ⟨us, hus, hxs⟩ := resL_ok hr hf _ _ hl
    have hm : (results fn tmps).run P w = .ok (if h : us.toArray.size = 1 then us.toArray[0] else .tuple us.toArray) w := by
      have h0 : results fn tmps = (do let vs ← fn.results.mapM (resV tmps); pure (if h : vs.size = 1 then vs[0] else .tuple vs)) := rfl
      rw [h0, Array.mapM_eq_mapM_toList, Sem.run_bind, map_eq_pure_bind, Sem.run_bind, hus, Result.andThen_ok, Sem.run_pure, Result.andThen_ok, Sem.run_pure]
    have hone : ∀ x, l = [x] → r = .ret x ∧ s' = s := fun x hx => by
      subst hx; simp [resT] at h; exact ⟨h.1.symm, h.2.symm⟩
    cases hxs with
    | nil =>
      simp [resT] at h
      exact ⟨h.2.symm, _, hm, by rw [← h.1]; exact .tup .nil⟩
    | cons hx ht =>
      cases ht with
      | nil =>
        obtain ⟨rfl, rfl⟩ := hone _ rfl
        exact ⟨rfl, _, hm, by simpa [EndR] using hx⟩
      | cons hy ht =>
        simp [resT] at h
        refine ⟨h.2.symm, _, hm, ?_⟩
        rw [← h.1]
        simp only [List.size_toArray, List.length_cons, Nat.add_eq_right, Nat.succ_ne_zero, dite_false]
        exact .tup (.cons hx (.cons hy ht))

theorem wr_lt {c : Code} {n j : Nat} (h : Nat.ble (wr c + 1) (2 ^ n) = true) (hj : wrC c j) : j < n := by
  have h1 := Nat.le_of_ble_eq_true h
  unfold wrC at hj
  rw [hasBit_eq] at hj
  rcases Nat.lt_or_ge j n with h2 | h2
  · exact h2
  · have h3 : wr c < 2 ^ j := Nat.lt_of_lt_of_le (by omega) (Nat.pow_le_pow_right (by omega) h2)
    rw [Nat.testBit_lt_two_pow h3] at hj
    cases hj

theorem args_FR {args : List AV} {vargs : Array Value} (h : VRL ρ args vargs.toList) (n : Nat) : FR ρ (argFrm args) (vargs ++ Array.replicate (n - vargs.size) undef) := by
  have key : ∀ (l : List AV) (i : Nat), nth l i = match l[i]? with | some x => x | none => .poison := by
    intro l
    induction l with
    | nil => intro i; simp [nth]
    | cons x l ih => intro i; cases i with
      | zero => simp [nth]
      | succ i => simp [nth, ih]
  intro i
  unfold argFrm
  rw [key]
  cases hi : args[i]? with
  | none => exact .poison _
  | some x =>
    obtain ⟨v, hv, hxv⟩ := h.get hi
    have hv' : vargs[i]? = some v := by simpa using hv
    have : (vargs ++ Array.replicate (n - vargs.size) undef).getD i undef = v := by
      rw [Array.getD_eq_getD_getElem?, Array.getElem?_append_left (Array.getElem?_eq_some_iff.1 hv').1, hv']
      rfl
    rw [this]
    exact hxv

theorem funK_sound {E : Env} {I : Nat → World → Prop} (hmix : E.P.follows .mixedOrders = true) (hX : SoundX E.P E.X) (hG : SoundG E.P I E.Γ) : SoundG E.P I (funK E) := by
  intro f args s r s' h
  unfold funK at h
  split at h
  · cases h
  · rename_i fn hfn
    split at h
    · cases h
    · rename_i hname
      split at h
      · cases h
      · rename_i c hbody
        refine ⟨fun vargs w => ?_, fun base w0 ρ w vargs hI hr hargs => ?_⟩
        · have hnm : ¬ fn.name = "runtime.NumGoroutine" := by simpa using hname
          simp [callFunc, hfn, hbody, hnm]
        · unfold bodyK at h
          split at h
          · cases h
          · rename_i hwr
            rw [fin_eq] at h
            unfold finO at h
            refine calls_of_wp hfn hbody ?_
            have hsz : ∀ j, wrC c j → j < (vargs ++ Array.replicate (fn.ntmps - vargs.size) undef).size := fun j hj => by
              have := wr_lt hwr hj
              simp
              omega
            have main : ∀ res, codeK E (fn.results.toList.map slotOf) (maskOf (fn.results.toList.map slotOf)) c (argFrm args) s (out .normal (fn.results.toList.map slotOf)) = some res →
                finO E.P fn.results.toList (some res) = some (r, s') →
                c.wp E.P (bodyPost E.P fn fun e w' => ∃ ρ', Rel E.P base w0 ρ' s' w' ∧ Step ρ s w ρ' s' w' ∧ EndR ρ' r e) { tmps := vargs ++ Array.replicate (fn.ntmps - vargs.size) undef, defers := [] } w := by
              intro res hres hfin
              refine codeK_sound hX hG hI (draw_sound hmix hX hG) c _ _ _ s _ res ρ w _ _ hres hr (args_FR hargs _) hsz (fun ρ' fr' s2 w' a' ha hf' hk => ?_) ⟨fun i ρ' fr' s2 w' a' ha hf' hk => ?_, fun ρ' fr' s2 w' a' ha hf' hk => ?_, fun x vs v ρ' s2 w' a' ha hv hk => ?_⟩
              · simp only [out, Option.some.injEq] at hk
                subst hk
                simp only [finO] at hfin
                obtain ⟨rfl, u, h1, h2⟩ := results_ok ha.rel hf' hfin
                exact ⟨ha.defers, u, h1, ρ', ha.rel, ha.step, h2⟩
              · subst hk
                simp [finO] at hfin
              · subst hk
                simp only [finO] at hfin
                obtain ⟨rfl, u, h1, h2⟩ := results_ok ha.rel hf' hfin
                exact ⟨ha.defers, u, h1, ρ', ha.rel, ha.step, h2⟩
              · subst hk
                simp only [finO, Option.some.injEq, Prod.mk.injEq] at hfin
                obtain ⟨rfl, rfl⟩ := hfin
                exact ⟨ha.defers, ρ', ha.rel, ha.step, hv⟩
            cases hc : codeK E (fn.results.toList.map slotOf) (maskOf (fn.results.toList.map slotOf)) c (argFrm args) s (out .normal (fn.results.toList.map slotOf)) with
            | none => rw [hc] at h; cases h
            | some res => exact main res hc (by rw [← hc]; exact h)
end
end Go.Ex
/-! # A function with one deferred closure that recovers -/
namespace Go.Ex
open Go.RowKit

def hid (m : Nat) (fr : Frm) : Frm := fun t => match hasBit m t with
  | true => .poison
  | false => fr t
def fin1 (r : Res) (k : AS → Res) : Res := match r with
  | some (.normal, _, s) => k s
  | some (.ret, _, s) => k s
  | _ => none
def defK (r : Res) (clo : AV → AS → Res) (k : AS → Res) : Res := match r with
  | some (.normal, _, s) => fin1 (clo .niliface s) k
  | some (.ret, _, s) => fin1 (clo .niliface s) k
  | some (.pan v, _, s) => fin1 (clo v s) k
  | _ => none
def cloK (E : Env) (gops : Array Oper) (rest : Code) (cap : List AV) (v : AV) (s : AS) : Res := match gops.toList with
  | [] => none
  | o :: l => opsK E gops l ((argFrm cap).put o.dst v) s fun fr s => codeK E [] 0 rest fr s (out .normal [])
/-- Behind the making of the closure. -/
def behK (E : Env) (sl : List Nat) (B : Code) (d1 : Option Tmp) (g : FuncId) (gops : Array Oper) (rest : Code) (fr : Frm) (s : AS) (d : AV) : Res := match d with
  | .func h cap => match Nat.beq h g with
    | true => defK (codeK E [] 0 B (fr.put d1 d) s (out .normal [])) (cloK E gops rest cap) fun s => some (.ret, sl.map (hid (wr B) (fr.put d1 d)), s)
    | false => none
  | _ => none
/-- A function A1; A2; defer a closure; B. -/
def dfnK (E : Env) (fn : Func) (A1 A2 B : Code) (o1 : Oper) (g : FuncId) (gops : Array Oper) (rest : Code) (args : List AV) (s : AS) : Option (AEnd × AS) :=
  fin E.P fn.results.toList (codeK E (fn.results.toList.map slotOf) (rd A2 ||| (rd B ||| (maskOf (fn.results.toList.map slotOf) ||| rdOp #[] o1))) A1 (argFrm args) s fun fr s =>
    codeK E (fn.results.toList.map slotOf) (rd B ||| (maskOf (fn.results.toList.map slotOf) ||| rdOp #[] o1)) A2 fr s fun fr s =>
      bO (pureOf (aop E.P E.X E.Γ fr s o1)) (behK E (fn.results.toList.map slotOf) B o1.dst g gops rest fr s))

section
variable {P : Program} {base : Nat} {w0 : World} {E : Env} {I : Nat → World → Prop}

/-- Operations in a frame that may recover. -/
theorem opsKS_sound (hX : SoundX E.P E.X) (hG : SoundG E.P I E.Γ) (hI : I base w0) {ops : Array Oper} {Q : Exit → Act → List Frame → World → Prop} {cs : List Frame} {W : List Nat} {res : Ex × List AV × AS} {k : Frm → AS → Res} :
    ∀ (l : List Oper) (i : Nat) (ρ : Loc) (s : AS) (w : World) (fr : Frm) (a : Act), ops.toList.drop i = l → opsK E ops l fr s k = some res → Rel E.P base w0 ρ s w → FR ρ fr a.tmps → (∀ j, wrL l j → j < a.tmps.size) →
      (∀ ρ' fr' s' w' a', After E.P base w0 ρ s w a (wrL l) ρ' s' w' a' → FR ρ' fr' a'.tmps → k fr' s' = some res → Q .normal a' cs w') →
      Leave E.P base w0 ρ s w a (wrL l) W res (fun e a w => Q e a cs w) → wpOpsS E.P ops Q (List.range' i l.length) a cs w
  | [], i, ρ, s, w, fr, a, _, h, hr, hf, _, hn, _ => hn ρ fr s w a (After.refl hr) hf h
  | o :: l, i, ρ, s, w, fr, a, hd, h, hr, hf, hw, hn, hl => by
    have ho : ops[i]? = some o := by
      have h1 : (ops.toList.drop i)[0]? = some o := by rw [hd]; rfl
      rw [List.getElem?_drop] at h1
      simpa using h1
    have hd' : ops.toList.drop (i + 1) = l := by
      rw [← List.drop_drop, hd]
      rfl
    have ih := opsKS_sound hX hG hI (ops := ops) (Q := Q) (cs := cs) (W := W) (res := res) (k := k) l (i + 1)
    have hsub : ∀ j, wrL l j → wrL (o :: l) j := fun j ⟨q, hq, e⟩ => ⟨q, List.mem_cons_of_mem _ hq, e⟩
    rw [opsK_cons] at h
    simp only [List.length_cons, List.range'_succ, wpOpsS, ho]
    have hon : ∀ j, o.dst = some j → wrL (o :: l) j := fun j e => ⟨o, List.mem_cons_self .., e⟩
    have stepA : ∀ {ρ' : Loc} {s' : AS} {w' : World} (v : Value), Rel E.P base w0 ρ' s' w' → Step ρ s w ρ' s' w' → After E.P base w0 ρ s w a (fun j => o.dst = some j) ρ' s' w' (a.put o.dst v) :=
      fun v h1 h2 => ⟨h1, h2, put_size _ _ _, put_defers _ _ _, fun j hj => put_other a o.dst v j hj⟩
    have key := op_sound (K := fun a w => wpOpsS E.P ops Q (List.range' (i + 1) l.length) a cs w) (Q := fun e a w => Q e a cs w) hX hG hI hr hf h
      (fun ρ' s' w' x v h1 h2 h3 h4 => ih ρ' s' w' (fr.put o.dst x) (a.put o.dst v) hd' h4 h1 ((hf.mono (h2.ext hr)).put h3 (fun j e => hw j (hon j e))) (fun j hj => by rw [put_size]; exact hw j (hsub j hj))
        (fun ρ2 fr2 s2 w2 a2 h5 h6 h7 => hn ρ2 fr2 s2 w2 a2 ((stepA v h1 h2).trans h5 hon hsub) h6 h7)
        (hl.of (stepA v h1 h2) hon hsub))
      (fun ρ' s' w' x v h1 h2 h3 h4 => by
        simp only [Option.some.injEq] at h4
        exact hl.pan x [] v ρ' s' w' a ⟨h1, h2, rfl, rfl, fun _ _ => rfl⟩ h3 h4.symm)
    cases hwd : Region.wanted o (yielded ops a.tmps) with
    | true =>
      rw [hwd, if_pos rfl] at key
      rw [if_pos rfl]
      unfold Oper.wp at key
      split
      · rename_i w' hrun
        rw [hrun] at key
        exact key.elim
      · exact key
    | false => rw [hwd, if_neg (by simp)] at key; rw [if_neg (by simp)]; exact key

theorem fin1_inv {r : Res} {k : AS → Res} {x : Ex × List AV × AS} (h : fin1 r k = some x) : ∃ e vs s, r = some (e, vs, s) ∧ (e = .normal ∨ e = .ret) ∧ k s = some x := by
  unfold fin1 at h
  split at h
  · exact ⟨_, _, _, rfl, .inl rfl, h⟩
  · exact ⟨_, _, _, rfl, .inr rfl, h⟩
  · cases h

/-- The closure, called where the function is left. -/
theorem clo_sound (hmix : E.P.follows .mixedOrders = true) (hX : SoundX E.P E.X) (hG : SoundG E.P I E.Γ) (hI : I base w0) {g : FuncId} {gfn : Func} {gid : Nat} {gops : Array Oper} {rest : Code} {or : Oper} {ol : List Oper} {cr : Call}
    (hg : E.P.funcs[g]? = some gfn) (hgb : gfn.body = some (.seq (.region gid gops false) rest)) (hgr : gfn.results = #[]) (hgw : Nat.ble (wr (.seq (.region gid gops false) rest) + 1) (2 ^ gfn.ntmps) = true)
    (hgo : gops.toList = or :: ol) (hor : or.op = .call cr) (hcr : cr.callee = .builtin .recover) (hcm : cr.args = #[]) (hog : or.guard = none)
    {ρ : Loc} {s : AS} {w : World} (hr : Rel E.P base w0 ρ s w) {cap : List AV} {vcap : Array Value} (hcap : VRL ρ cap vcap.toList) {v : AV} {e : Ex} {vs : List AV} {s' : AS} (hcl : cloK E gops rest cap v s = some (e, vs, s')) (he : e = .normal ∨ e = .ret)
    {u : FrameMode} (hu : (u = .returning ∧ v = .niliface) ∨ ∃ x, u = .panicking [{ v := x, recovered := false }] ∧ VR ρ v x) {R : World → Prop}
    (hR : ∀ ρ' w', Rel E.P base w0 ρ' s' w' → Step ρ s w ρ' s' w' → R w') :
    CallsD E.P g vcap u w fun
      | .returned _, u', w' => settle u' = .returning ∧ R w'
      | _, _, _ => False := by
  refine callsD_of_wpS hg hgb fun c₀ cs hc₀ => ?_
  have hsz : ∀ j, wrC (.seq (.region gid gops false) rest) j → j < (vcap ++ Array.replicate (gfn.ntmps - vcap.size) undef).size := fun j hj => by
    have := wr_lt hgw hj
    simp
    omega
  have hs1 : ∀ j, wrL gops.toList j → wrC (.seq (.region gid gops false) rest) j := fun j hj => by
    unfold wrC
    rw [wr, hasBit_or, wr]
    rw [(wrOps_bit _ 0 j).2 (.inr hj)]
    rfl
  have hs2 : ∀ j, wrC rest j → wrC (.seq (.region gid gops false) rest) j := fun j hj => by
    unfold wrC at *
    rw [wr, hasBit_or, hj]
    simp
  refine wpS_seq (wpS_region ?_)
  have hlen : List.range gops.size = 0 :: List.range' 1 ol.length := by
    rw [List.range_eq_range', ← Array.length_toList, hgo]
    rfl
  have hgo0 : gops[0]? = some or := by
    have : gops.toList[0]? = some or := by rw [hgo]; rfl
    simpa using this
  rw [hlen]
  simp only [wpOpsS, hgo0]
  have hwd : Region.wanted or (yielded gops (vcap ++ Array.replicate (gfn.ntmps - vcap.size) undef)) = true := by simp [Region.wanted, hog]
  rw [if_pos hwd]
  have hrun : ∀ a : Act, (execOp a.eval or).run E.P w = .ok .recover w := by
    intro a
    simp only [execOp, hor, resolve, hcr, Sem.run_bind, Sem.run_pure, Result.andThen_ok, invoke, hcm]
    rfl
  rw [hrun]
  simp only
  simp only [cloK, hgo] at hcl
  -- behind the recover
  have after : ∀ (x : Value) (cs' : List Frame) (u' : FrameMode), VR ρ v x → cs' = { c₀ with mode := u' } :: cs → settle u' = .returning →
      wpOpsS E.P gops (Exit.thenS (rest.wpS E.P (bodyPostS E.P gfn c₀ cs fun | .returned _, u', w' => settle u' = .returning ∧ R w' | _, _, _ => False)) (bodyPostS E.P gfn c₀ cs fun | .returned _, u', w' => settle u' = .returning ∧ R w' | _, _, _ => False)) (List.range' 1 ol.length)
        (({ tmps := vcap ++ Array.replicate (gfn.ntmps - vcap.size) undef, defers := [] } : Act).put or.dst x) cs' w := by
    intro x cs' u' hvx hcs hset
    have hd1 : gops.toList.drop 1 = ol := by rw [hgo]; rfl
    have hwol : ∀ j, wrL ol j → wrL gops.toList j := fun j ⟨o, ho, e⟩ => ⟨o, by rw [hgo]; exact List.mem_cons_of_mem _ ho, e⟩
    refine opsKS_sound (W := []) (res := (e, vs, s')) hX hG hI ol 1 ρ s w ((argFrm cap).put or.dst v) _ hd1 hcl hr ((args_FR hcap _).put hvx fun d hd => hsz d (hs1 d ⟨or, by rw [hgo]; exact List.mem_cons_self .., hd⟩)) (fun j hj => by rw [put_size]; exact hsz j (hs1 j (hwol j hj)))
      (fun ρ1 fr1 s1 w1 a1 ha1 hf1 hk1 => ?_) ⟨fun i ρ' fr' s2 w' a' ha hf' hk => ?_, fun ρ' fr' s2 w' a' ha hf' hk => ?_, fun y vs' yv ρ' s2 w' a' ha hv hk => ?_⟩
    · have dend : ∀ {ρ2 : Loc} {s2 : AS} {w2 : World} {a2 : Act}, After E.P base w0 ρ1 s1 w1 a1 (wrC rest) ρ2 s2 w2 a2 → s2 = s' → (a2.defers = [] ∧ ∃ u', cs' = { c₀ with mode := u' } :: cs ∧ ∃ v, (results gfn a2.tmps).run E.P w2 = .ok v w2 ∧ (settle u' = .returning ∧ R w2)) := by
        intro ρ2 s2 w2 a2 ha2 e2
        subst e2
        refine ⟨ha2.defers.trans (ha1.defers.trans (put_defers _ _ _)), u', hcs, .tuple #[], results_none hgr _ _ _, hset, hR ρ2 w2 ha2.rel (ha1.step.trans ha2.step)⟩
      refine wpS_of_wp ?_
      refine codeK_sound hX hG hI (draw_sound hmix hX hG) rest [] 0 fr1 s1 _ (e, vs, s') ρ1 w1 a1 _ hk1 ha1.rel hf1 (fun j hj => by rw [ha1.size, put_size]; exact hsz j (hs2 j hj)) (fun ρ2 fr2 s2 w2 a2 ha2 hf2 hk2 => ?_) ⟨fun i ρ' fr' s2 w' a' ha hf' hk => ?_, fun ρ' fr' s2 w' a' ha hf' hk => ?_, fun y vs' yv ρ' s2 w' a' ha hv hk => ?_⟩
      · simp only [out, Option.some.injEq, Prod.mk.injEq] at hk2
        exact dend ha2 hk2.2.2
      · cases hk; rcases he with he | he <;> cases he
      · cases hk
        exact dend ha rfl
      · cases hk; rcases he with he | he <;> cases he
    · cases hk; rcases he with he | he <;> cases he
    · cases hk
      exact ⟨ha.defers.trans (put_defers _ _ _), u', hcs, .tuple #[], results_none hgr _ _ _, hset, hR ρ' w' ha.rel ha.step⟩
    · cases hk; rcases he with he | he <;> cases he
  rcases hu with ⟨hu1, hv1⟩ | ⟨x, hu1, hvx⟩
  · have : recoverD (c₀ :: cs) = none := by simp [recoverD, hc₀, hu1]
    rw [this]
    refine after .nilIface (c₀ :: cs) .returning (by rw [hv1]; exact .niliface) (by rw [← hu1, ← hc₀]) rfl
  · have : recoverD (c₀ :: cs) = some (x, { c₀ with mode := .panicking [{ v := x, recovered := true }] } :: cs) := by simp [recoverD, hc₀, hu1]
    rw [this]
    exact after x _ _ hvx rfl rfl
end
end Go.Ex
/-! # A function with one deferred closure that recovers, the whole -/
namespace Go.Ex
open Go.RowKit

section
variable {base : Nat} {w0 : World} {E : Env} {I : Nat → World → Prop}

theorem FR.hid {ρ ρ' : Loc} {fr : Frm} {a a' : Act} {m : Nat} (hf : FR ρ fr a.tmps) (hr : LExt ρ ρ') (ho : ∀ i, ¬ hasBit m i = true → a'.tmps.getD i undef = a.tmps.getD i undef) : FR ρ' (Go.Ex.hid m fr) a'.tmps := by
  intro i
  unfold Go.Ex.hid
  split
  · exact .poison _
  · rename_i hb
    rw [ho i (by rw [hb]; simp)]
    exact (hf i).mono hr

theorem defK_inv {r : Res} {clo : AV → AS → Res} {k : AS → Res} {x : Ex × List AV × AS} (h : defK r clo k = some x) :
    ∃ e vs s, r = some (e, vs, s) ∧ (((e = .normal ∨ e = .ret) ∧ fin1 (clo .niliface s) k = some x) ∨ ∃ v, e = .pan v ∧ fin1 (clo v s) k = some x) := by
  unfold defK at h
  split at h
  · exact ⟨_, _, _, rfl, .inl ⟨.inl rfl, h⟩⟩
  · exact ⟨_, _, _, rfl, .inl ⟨.inr rfl, h⟩⟩
  · exact ⟨_, _, _, rfl, .inr ⟨_, rfl, h⟩⟩
  · cases h

theorem dfn_sound (hmix : E.P.follows .mixedOrders = true) (hX : SoundX E.P E.X) (hG : SoundG E.P I E.Γ) {f g : FuncId} {fn gfn : Func} {A1 A2 B rest : Code} {did gid : Nat} {o1 o2 or : Oper} {ol : List Oper} {gops : Array Oper} {c2 cr : Call} {d1 : Tmp}
    (hf : E.P.funcs[f]? = some fn) (hname : (fn.name == "runtime.NumGoroutine") = false) (hb : fn.body = some (.seq A1 (.seq A2 (.seq (.region did #[o1, o2] false) B))))
    (hw : Nat.ble (wr (.seq A1 (.seq A2 (.seq (.region did #[o1, o2] false) B))) + 1) (2 ^ fn.ntmps) = true)
    (h1d : o1.dst = some d1) (h1g : o1.guard = none) (h2d : o2.dst = none) (h2g : o2.guard = none) (h2o : o2.op = .defer c2) (h2c : c2.callee = .value (.tmp d1)) (h2a : c2.args = #[])
    (hg : E.P.funcs[g]? = some gfn) (hgname : (gfn.name == "runtime.NumGoroutine") = false) (hgb : gfn.body = some (.seq (.region gid gops false) rest)) (hgr : gfn.results = #[]) (hgw : Nat.ble (wr (.seq (.region gid gops false) rest) + 1) (2 ^ gfn.ntmps) = true)
    (hgo : gops.toList = or :: ol) (hor : or.op = .call cr) (hcr : cr.callee = .builtin .recover) (hcm : cr.args = #[]) (hog : or.guard = none)
    {args : List AV} {s s' : AS} {r : AEnd} (h : dfnK E fn A1 A2 B o1 g gops rest args s = some (r, s')) :
    (∀ vargs w, (callFunc f vargs).run E.P w = .ok (.enter f vargs) w) ∧
    ∀ base w0 ρ w (vargs : Array Value), I base w0 → Rel E.P base w0 ρ s w → VRL ρ args vargs.toList →
      Calls E.P f vargs w fun e w' => ∃ ρ', Rel E.P base w0 ρ' s' w' ∧ Step ρ s w ρ' s' w' ∧ EndR ρ' r e := by
  refine ⟨fun vargs w => ?_, fun base w0 ρ w vargs hI hr hargs => ?_⟩
  · have hnm : ¬ fn.name = "runtime.NumGoroutine" := by simpa using hname
    simp [callFunc, hf, hb, hnm]
  refine calls_of_wp_defers hf hb ?_
  unfold dfnK at h
  rw [fin_eq] at h
  generalize hsl : fn.results.toList.map slotOf = sl at h
  have hsz : ∀ j, wrC (.seq A1 (.seq A2 (.seq (.region did #[o1, o2] false) B))) j → j < (vargs ++ Array.replicate (fn.ntmps - vargs.size) undef).size := fun j hj => by
    have := wr_lt hw hj
    simp
    omega
  have q1 : ∀ j, wrC A1 j → wrC (.seq A1 (.seq A2 (.seq (.region did #[o1, o2] false) B))) j := fun j hj => by
    unfold wrC at *; rw [wr, hasBit_or, hj]; rfl
  have q2 : ∀ j, wrC A2 j → wrC (.seq A1 (.seq A2 (.seq (.region did #[o1, o2] false) B))) j := fun j hj => by
    unfold wrC at *; rw [wr, wr, hasBit_or, hasBit_or, hj]; simp
  have q3 : d1 < (vargs ++ Array.replicate (fn.ntmps - vargs.size) undef).size := hsz d1 (by
    unfold wrC
    rw [wr, wr, wr, wr, hasBit_or, hasBit_or, hasBit_or, (wrOps_bit _ 0 d1).2 (.inr ⟨o1, by simp, h1d⟩)]
    simp)
  have q4 : ∀ j, wrC B j → wrC (.seq A1 (.seq A2 (.seq (.region did #[o1, o2] false) B))) j := fun j hj => by
    unfold wrC at *; rw [wr, wr, wr, hasBit_or, hasBit_or, hasBit_or, hj]; simp
  -- the leaving
  have early : ∀ {ρ' : Loc} {fr' : Frm} {s2 : AS} {w' : World} {a' : Act} {e : Ex}, Rel E.P base w0 ρ' s2 w' → Step ρ s w ρ' s2 w' → a'.defers = [] → FR ρ' fr' a'.tmps →
      finO E.P fn.results.toList (some (.ret, sl.map fr', s2)) = some (r, s') → Leaves E.P fn a'.tmps (fun e w' => ∃ ρ', Rel E.P base w0 ρ' s' w' ∧ Step ρ s w ρ' s' w' ∧ EndR ρ' r e) a'.defers .returning w' := by
    intro ρ' fr' s2 w' a' e hrel hst hd hf' hfin
    rw [hd]
    subst hsl
    simp only [finO] at hfin
    obtain ⟨rfl, u, h1, h2⟩ := results_ok hrel hf' hfin
    exact ⟨u, h1, ρ', hrel, hst, h2⟩
  cases hc : (codeK E sl (rd A2 ||| (rd B ||| (maskOf sl ||| rdOp #[] o1))) A1 (argFrm args) s fun fr s =>
    codeK E sl (rd B ||| (maskOf sl ||| rdOp #[] o1)) A2 fr s fun fr s =>
      bO (pureOf (aop E.P E.X E.Γ fr s o1)) (behK E sl B o1.dst g gops rest fr s)) with
  | none => rw [hc] at h; cases h
  | some res =>
  rw [hc] at h
  have hD := draw_sound hmix hX hG
  have hpan : ∀ {x : AV} {vs : List AV} {v : Value} {ρ' : Loc} {s2 : AS} {w' : World} {a' : Act}, Rel E.P base w0 ρ' s2 w' → Step ρ s w ρ' s2 w' → a'.defers = [] → VR ρ' x v → res = (.pan x, vs, s2) →
      Leaves E.P fn a'.tmps (fun e w' => ∃ ρ', Rel E.P base w0 ρ' s' w' ∧ Step ρ s w ρ' s' w' ∧ EndR ρ' r e) a'.defers (.panicking [{ v, recovered := false }]) w' := by
    intro x vs v ρ' s2 w' a' hrel hst hd hv hk
    rw [hd]
    subst hk
    simp only [finO, Option.some.injEq, Prod.mk.injEq] at h
    obtain ⟨rfl, rfl⟩ := h
    exact ⟨ρ', hrel, hst, hv⟩
  refine wp_seq (codeK_sound hX hG hI hD A1 _ _ _ s _ res ρ w _ _ hc hr (args_FR hargs _) (fun j hj => hsz j (q1 j hj)) (fun ρ1 fr1 s1 w1 a1 ha1 hf1 hk1 => ?_) ⟨fun i ρ' fr' s2 w' a' ha hf' hk => ?_, fun ρ' fr' s2 w' a' ha hf' hk => ?_, fun x vs v ρ' s2 w' a' ha hv hk => ?_⟩)
  · refine wp_seq (codeK_sound hX hG hI hD A2 _ _ _ s1 _ res ρ1 w1 _ _ hk1 ha1.rel hf1 (fun j hj => by rw [ha1.size]; exact hsz j (q2 j hj)) (fun ρ2 fr2 s2 w2 a2 ha2 hf2 hk2 => ?_) ⟨fun i ρ' fr' s2 w' a' ha hf' hk => ?_, fun ρ' fr' s2 w' a' ha hf' hk => ?_, fun x vs v ρ' s2 w' a' ha hv hk => ?_⟩)
    · -- the defer
      refine wp_seq (wp_region ?_)
      unfold bO at hk2
      split at hk2
      · cases hk2
      · rename_i d hd
        unfold behK at hk2
        split at hk2
        · rename_i h' cap
          split at hk2
          · rename_i hgg
            obtain rfl := Nat.eq_of_beq_eq_true hgg
            have haop : aop E.P E.X E.Γ fr2 s2 o1 = .pure (some (.func h' cap)) := by
              unfold pureOf at hd
              split at hd
              · rename_i y hy; rw [hy, hd]
              · cases hd
            obtain ⟨v, hv1, hv2⟩ := pure_ok hX ha2.rel hf2 haop
            obtain ⟨vcap, rfl, hvc⟩ : ∃ vcap : Array Value, v = .func (.func h') #[] vcap ∧ VRL ρ2 cap vcap.toList := by
              cases hv2 with
              | func hc => exact ⟨_, rfl, hc⟩
            have hl : List.range (#[o1, o2] : Array Oper).size = [0, 1] := rfl
            rw [hl]
            have hw1 : Region.wanted o1 (yielded #[o1, o2] a2.tmps) = true := by simp [Region.wanted, h1g]
            simp only [wpOps]
            have hg0 : (#[o1, o2] : Array Oper)[0]? = some o1 := rfl
            have hg1 : (#[o1, o2] : Array Oper)[1]? = some o2 := rfl
            rw [hg0]
            simp only
            rw [if_pos hw1]
            refine .inl ?_
            unfold Oper.wp
            rw [hv1]
            simp only [Oper.upon, hg1]
            have hw2 : Region.wanted o2 (yielded #[o1, o2] (a2.put o1.dst (.func (.func h') #[] vcap)).tmps) = true := by simp [Region.wanted, h2g]
            rw [if_pos hw2]
            refine .inl ?_
            have hsz2 : d1 < a2.tmps.size := by rw [ha2.size, ha1.size]; exact q3
            have hrun2 : (execOp (a2.put o1.dst (.func (.func h') #[] vcap)).eval o2).run E.P w2 = .ok (.defer { target := .fn (.func h') vcap, args := #[] }) w2 := by
              have he : (a2.put o1.dst (.func (.func h') #[] vcap)).eval (.tmp d1) = .func (.func h') #[] vcap := by
                simp [Act.eval, h1d, Act.put, hsz2]
              simp only [execOp, h2o, resolve, h2c, h2a, he, Sem.run_bind]
              simp [Deferred.ofValue]
            rw [hrun2]
            simp only [Exit.then]
            -- the rest
            have hfB : FR ρ2 (fr2.put o1.dst (.func h' cap)) (({ (a2.put o1.dst (.func (.func h') #[] vcap)) with defers := ({ target := .fn (.func h') vcap, args := #[] } : Deferred) :: (a2.put o1.dst (.func (.func h') #[] vcap)).defers } : Act).put o2.dst undef).tmps := by
              rw [h2d]
              exact hf2.put (.func hvc) fun i hi => by rw [h1d] at hi; cases hi; exact hsz2
            have hszB : (({ (a2.put o1.dst (.func (.func h') #[] vcap)) with defers := ({ target := .fn (.func h') vcap, args := #[] } : Deferred) :: (a2.put o1.dst (.func (.func h') #[] vcap)).defers } : Act).put o2.dst undef).tmps.size = a2.tmps.size := by
              rw [h2d]
              exact put_size a2 o1.dst (.func (.func h') #[] vcap)
            have hdB : (({ (a2.put o1.dst (.func (.func h') #[] vcap)) with defers := ({ target := .fn (.func h') vcap, args := #[] } : Deferred) :: (a2.put o1.dst (.func (.func h') #[] vcap)).defers } : Act).put o2.dst undef).defers = [{ target := .fn (.func h') vcap, args := #[] }] := by
              rw [h2d]
              show _ :: (a2.put o1.dst (.func (.func h') #[] vcap)).defers = _
              rw [put_defers, ha2.defers, ha1.defers]
            generalize (({ (a2.put o1.dst (.func (.func h') #[] vcap)) with defers := ({ target := .fn (.func h') vcap, args := #[] } : Deferred) :: (a2.put o1.dst (.func (.func h') #[] vcap)).defers } : Act).put o2.dst undef) = aB at hfB hszB hdB
            have st2 : Step ρ s w ρ2 s2 w2 := ha1.step.trans ha2.step
            obtain ⟨eB, vB, sB, hB, hcase⟩ := defK_inv hk2
            have leave : ∀ {ρ3 : Loc} {w3 : World} {a3 : Act} {u : FrameMode} {v : AV}, After E.P base w0 ρ2 s2 w2 aB (wrC B) ρ3 sB w3 a3 → fin1 (cloK E gops rest cap v sB) (fun s => some (.ret, sl.map (hid (wr B) (fr2.put o1.dst (.func h' cap))), s)) = some res →
                ((u = .returning ∧ v = .niliface) ∨ ∃ x, u = .panicking [{ v := x, recovered := false }] ∧ VR ρ3 v x) →
                Leaves E.P fn a3.tmps (fun e w' => ∃ ρ', Rel E.P base w0 ρ' s' w' ∧ Step ρ s w ρ' s' w' ∧ EndR ρ' r e) a3.defers u w3 := by
              intro ρ3 w3 a3 u v ha3 hf1' hu
              obtain ⟨e4, v4, s4, hcl, he4, hk4⟩ := fin1_inv hf1'
              simp only [Option.some.injEq] at hk4
              subst hk4
              have hext : LExt ρ2 ρ3 := ha3.step.ext ha2.rel
              rw [ha3.defers, hdB]
              refine leaves_cons (f := h') (args := #[] ++ vcap) ?_ ?_ ?_
              · rcases hu with ⟨rfl, -⟩ | ⟨x, rfl, -⟩ <;> simp
              · have hnm : ¬ gfn.name = "runtime.NumGoroutine" := by simpa using hgname
                simp [invoke, callFunc, hg, hgb, hnm]
              · rw [Array.empty_append]
                refine (clo_sound hmix hX hG hI hg hgb hgr hgw hgo hor hcr hcm hog ha3.rel (hvc.mono hext) hcl he4 hu (R := fun w' => ∃ v, (results fn a3.tmps).run E.P w' = .ok v w' ∧ ∃ ρ', Rel E.P base w0 ρ' s' w' ∧ Step ρ s w ρ' s' w' ∧ EndR ρ' r (.returned v)) (fun ρ4 w4 hr4 hs4 => ?_)).mono ?_
                · subst hsl
                  simp only [finO] at h
                  have hf4 : FR ρ4 (hid (wr B) (fr2.put o1.dst (.func h' cap))) a3.tmps := hfB.hid (hext.trans (hs4.ext ha3.rel)) ha3.other
                  obtain ⟨rfl, u', h1, h2⟩ := results_ok hr4 hf4 h
                  exact ⟨u', h1, ρ4, hr4, (st2.trans ha3.step).trans hs4, h2⟩
                · intro e u' w' he
                  cases e with
                  | returned x =>
                    obtain ⟨h1, h2⟩ := he
                    show Leaves E.P fn a3.tmps _ [] (settle u') w'
                    rw [h1]
                    exact h2
                  | panicked x => exact he.elim
                  | outgrown => exact he.elim
            refine codeK_sound hX hG hI hD B _ _ _ s2 _ (eB, vB, sB) ρ2 w2 _ _ hB ha2.rel hfB (fun j hj => by rw [hszB, ha2.size, ha1.size]; exact hsz j (q4 j hj)) (fun ρ3 fr3 s3 w3 a3 ha3 hf3 hk3 => ?_) ⟨fun i ρ' fr' s2 w' a' ha hf' hk => ?_, fun ρ' fr' s2 w' a' ha hf' hk => ?_, fun x vs v ρ' s2 w' a' ha hv hk => ?_⟩
            · simp only [out, Option.some.injEq, Prod.mk.injEq] at hk3
              obtain ⟨rfl, rfl, rfl⟩ := hk3
              rcases hcase with ⟨-, hf1'⟩ | ⟨v, hv, -⟩
              · exact leave ha3 hf1' (.inl ⟨rfl, rfl⟩)
              · cases hv
            · cases hk
              rcases hcase with ⟨h1 | h1, -⟩ | ⟨v, hv, -⟩
              · cases h1
              · cases h1
              · cases hv
            · cases hk
              rcases hcase with ⟨-, hf1'⟩ | ⟨v, hv, -⟩
              · exact leave ha hf1' (.inl ⟨rfl, rfl⟩)
              · cases hv
            · cases hk
              rcases hcase with ⟨h1 | h1, -⟩ | ⟨y, hy, hf1'⟩
              · cases h1
              · cases h1
              · cases hy
                exact leave ha hf1' (.inr ⟨v, rfl, hv⟩)
          · cases hk2
        · cases hk2
    · subst hk; simp [finO] at h
    · subst hk
      exact early (e := .ret) ha.rel (ha1.step.trans ha.step) (ha.defers.trans ha1.defers) hf' h
    · exact hpan ha.rel (ha1.step.trans ha.step) (ha.defers.trans ha1.defers) hv hk
  · subst hk; simp [finO] at h
  · subst hk
    exact early (e := .ret) ha.rel ha.step ha.defers hf' h
  · exact hpan ha.rel ha.step ha.defers hv hk
end
end Go.Ex
/-! # Is a text within a text? -/
namespace Go.Ex
open Go.RowKit

def subN : Nat → Nat → Nat → Nat → Bool
  | 0, _, _, _ => false
  | f + 1, m, v, p => match Nat.ble p m with
    | false => false
    | true => match Nat.beq (m % p) v with
      | true => true
      | false => subN f (m / 256) v p
def conK (args : List AV) (s : AS) : Option (AEnd × AS) := match args with
  | [.str m, .str n] => match Nat.ble (slen m) 4000000000 with
    | true => some (.ret (.bool (subN (slen m + 1) m (n - 256 ^ slen n) (256 ^ slen n))), s)
    | false => none
  | _ => none

theorem val_inj : ∀ {a b : List UInt8}, a.length = b.length → val a = val b → a = b := by
  intro a b hl h
  refine enc_inj ?_
  rw [enc_val, enc_val, hl, h]
theorem prefix_enc (sub t : List UInt8) : (Nat.ble (256 ^ sub.length) (enc t) && Nat.beq (enc t % 256 ^ sub.length) (val sub)) = sub.isPrefixOf t := by
  by_cases hl : sub.length ≤ t.length
  · have h1 : Nat.ble (256 ^ sub.length) (enc t) = true := Nat.ble_eq_true_of_le (by
      rw [enc_val]
      have := Nat.pow_le_pow_right (n := 256) (by decide) hl
      omega)
    rw [h1, Bool.true_and, enc_mod t sub.length hl]
    by_cases hp : sub <+: t
    · have h2 : sub.isPrefixOf t = true := List.isPrefixOf_iff_prefix.2 hp
      rw [h2]
      have : t.take sub.length = sub := (List.prefix_iff_eq_take.1 hp).symm
      rw [this]
      simp
    · have h2 : sub.isPrefixOf t = false := by
        cases hq : sub.isPrefixOf t with
        | false => rfl
        | true => exact absurd (List.isPrefixOf_iff_prefix.1 hq) hp
      rw [h2]
      cases hq : Nat.beq (val (t.take sub.length)) (val sub) with
      | false => rfl
      | true =>
        have := val_inj (by simp; omega) (Nat.eq_of_beq_eq_true hq)
        exact absurd (List.prefix_iff_eq_take.2 this.symm) hp
  · have h1 : Nat.ble (256 ^ sub.length) (enc t) = false := by
      cases hq : Nat.ble (256 ^ sub.length) (enc t) with
      | false => rfl
      | true =>
        have h2 := Nat.le_of_ble_eq_true hq
        rw [enc_val] at h2
        have h3 := val_lt t
        have h4 : 256 ^ (t.length + 1) ≤ 256 ^ sub.length := Nat.pow_le_pow_right (by decide) (by omega)
        rw [Nat.pow_succ] at h4
        omega
    have h2 : sub.isPrefixOf t = false := by
      cases hq : sub.isPrefixOf t with
      | false => rfl
      | true => exact absurd (List.isPrefixOf_iff_prefix.1 hq).length_le hl
    rw [h1, h2]
    rfl
theorem contains_cons (b : UInt8) (t sub : List UInt8) : Lib.contains (b :: t) sub = (sub.isPrefixOf (b :: t) || Lib.contains t sub) := by
  unfold Lib.contains
  rw [Lib.index]
  have := Lib.index_ge t sub
  split
  · rename_i h; simp [h]
  · rename_i h
    simp only [h, Bool.false_or]
    split
    · rename_i h2; simp at h2; rw [h2]
    · rename_i h2
      simp at h2
      have h3 : 0 ≤ Lib.index t sub := by omega
      have h4 : 0 ≤ Lib.index t sub + 1 := by omega
      simp [h3, h4]
theorem subN_enc (sub : List UInt8) : ∀ (t : List UInt8), subN (t.length + 1) (enc t) (val sub) (256 ^ sub.length) = Lib.contains t sub
  | [] => by
    have h := prefix_enc sub []
    simp only [subN, List.length_nil]
    have hc : Lib.contains [] sub = sub.isPrefixOf [] := by
      unfold Lib.contains Lib.index
      cases sub <;> simp
    rw [hc, ← h]
    cases Nat.ble (256 ^ sub.length) (enc []) <;> simp only [Bool.false_and, Bool.true_and]
    cases Nat.beq (enc [] % 256 ^ sub.length) (val sub) <;> rfl
  | b :: t => by
    have h := prefix_enc sub (b :: t)
    have ih := subN_enc sub t
    rw [contains_cons, ← h, ← ih]
    simp only [subN, List.length_cons]
    cases h1 : Nat.ble (256 ^ sub.length) (enc (b :: t)) with
    | false =>
      simp only [Bool.false_and, Bool.false_or]
      have h2 : Nat.ble (256 ^ sub.length) (enc t) = false := by
        cases hq : Nat.ble (256 ^ sub.length) (enc t) with
        | false => rfl
        | true =>
          have h3 := Nat.le_of_ble_eq_true hq
          have h4 : enc t ≤ enc (b :: t) := by simp only [enc]; omega
          rw [Nat.ble_eq_true_of_le (Nat.le_trans h3 h4)] at h1
          cases h1
      rw [h2]
    | true =>
      simp only [Bool.true_and]
      have h2 : enc (b :: t) / 256 = enc t := by
        simp only [enc]
        have := b.toNat_lt
        omega
      rw [h2]
      cases Nat.beq (enc (b :: t) % 256 ^ sub.length) (val sub) with
      | true => rfl
      | false => simp only [Bool.false_or, subN]

/-- The callee's contract serves. -/
theorem con_sound {P : Program} {I : Nat → World → Prop} {f : FuncId} (henter : ∀ vargs w, (callFunc f vargs).run P w = .ok (.enter f vargs) w)
    (hcon : ∀ (base : Nat) (w0 w : World) (s sub : ByteArray), I base w0 → Below base w0 w → s.size < 4294967281 → Calls P f #[.string s, .string sub] w fun e w' => e = .returned (.bool (Lib.contains s.data.toList sub.data.toList)) ∧ w' = w)
    {args : List AV} {s s' : AS} {r : AEnd} (h : conK args s = some (r, s')) :
    (∀ vargs w, (callFunc f vargs).run P w = .ok (.enter f vargs) w) ∧
    ∀ base w0 ρ w (vargs : Array Value), I base w0 → Rel P base w0 ρ s w → VRL ρ args vargs.toList →
      Calls P f vargs w fun e w' => ∃ ρ', Rel P base w0 ρ' s' w' ∧ Step ρ s w ρ' s' w' ∧ EndR ρ' r e := by
  refine ⟨henter, fun base w0 ρ w vargs hI hr hargs => ?_⟩
  unfold conK at h
  split at h
  · rename_i m n
    split at h
    · rename_i hle
      cases h
      have hle := Nat.le_of_ble_eq_true hle
      cases hargs' : vargs.toList with
      | nil => rw [hargs'] at hargs; cases hargs
      | cons v1 vs =>
        rw [hargs'] at hargs
        cases hargs with
        | cons h1 ht =>
          cases ht with
          | cons h2 ht =>
            rename_i v2 vs
            cases ht
            obtain ⟨t, rfl, rfl⟩ := h1.str_inv
            obtain ⟨u, rfl, rfl⟩ := h2.str_inv
            have hv : vargs = #[.string t, .string u] := Array.ext' (by simpa using hargs')
            rw [slen_enc] at hle
            have hts : t.data.toList.length = t.size := size_list t
            rw [hv]
            refine (hcon base w0 w t u hI hr.below (by omega)).mono ?_
            rintro e w' ⟨rfl, rfl⟩
            refine ⟨ρ, hr, Step.refl _ _ _, ?_⟩
            show VR ρ _ _
            rw [slen_enc, slen_enc, enc_val u.data.toList, Nat.add_sub_cancel, subN_enc]
            exact .bool _
    · cases h
  · cases h
end Go.Ex
/-! # A call whose arguments are plain data: run once, from nothing, and taken over into any state -/
namespace Go.Ex
open Go.RowKit

mutual
/-- The places of a value, moved on by k. -/
def sh (k : Nat) : AV → AV
  | .ptr b o => .ptr (k + b) o
  | .slice b o l c => .slice (k + b) o l c
  | .gslice b l => .gslice (k + b) l
  | .part b o l => .part (k + b) o l
  | .map b => .map (k + b)
  | .func f c => .func f (shL k c)
  | .iface t v => .iface t (sh k v)
  | .agg c => .agg (shL k c)
  | .tup c => .tup (shL k c)
  | x => x
def shL (k : Nat) : List AV → List AV
  | [] => []
  | x :: l => sh k x :: shL k l
end
def shE (k : Nat) : List (AV × AV) → List (AV × AV)
  | [] => []
  | (a, b) :: l => (sh k a, sh k b) :: shE k l
def shB (k : Nat) : Blk → Blk
  | .row e g cs => .row e g (shL k cs)
  | .map es => .map (shE k es)
def shA (k : Nat) : List (Nat × Blk) → List (Nat × Blk)
  | [] => []
  | (i, b) :: l => (k + i, shB k b) :: shA k l
def addH : List (Nat × Blk) → Tr → Tr
  | [], h => h
  | (i, b) :: l, h => (addH l h).set i (some b)
def addAll (s : AS) (l : List (Nat × Blk)) (n : Nat) : AS := ⟨addH l s.h, n⟩
/-- Does a state hold these blocks? -/
def holdsB (s : AS) : List (Nat × Blk) → Bool
  | [] => true
  | (i, b) :: l => match blkBeq (s.get i) (some b) with
    | true => holdsB s l
    | false => false
def memoOk (r : Option (AEnd × AS)) (V : AV) (l : List (Nat × Blk)) (n : Nat) : Bool := match r with
  | some (.ret v, s) => AV.beq 20 v V && Nat.beq s.n n && holdsB s l
  | _ => false

section
variable {ρ ρ' : Loc} {k : Nat}
mutual
theorem VR.sh (h : ∀ b x, ρ b = some x → ρ' (k + b) = some x) : ∀ {x : AV} {v : Value}, VR ρ x v → VR ρ' (Go.Ex.sh k x) v
  | _, _, .poison v => .poison v
  | _, _, .bool b => .bool b
  | _, _, .int k n => .int k n
  | _, _, .str s => .str s
  | _, _, .nilptr => .nilptr
  | _, _, .ptr e => .ptr (h _ _ e)
  | _, _, .nilslice => .nilslice
  | _, _, .slice e hl => .slice (h _ _ e) hl
  | _, _, .gslice e hl => .gslice (h _ _ e) hl
  | _, _, .part e hl => .part (h _ _ e) hl
  | _, _, .nomore a c => .nomore a c
  | _, _, .nilmap => .nilmap
  | _, _, .map e => .map (h _ _ e)
  | _, _, .nilfunc => .nilfunc
  | _, _, .func e => .func (VRL.sh h e)
  | _, _, .niliface => .niliface
  | _, _, .iface e => .iface (VR.sh h e)
  | _, _, .agg e => .agg (VRL.sh h e)
  | _, _, .tup e => .tup (VRL.sh h e)
theorem VRL.sh (h : ∀ b x, ρ b = some x → ρ' (k + b) = some x) : ∀ {xs : List AV} {vs : List Value}, VRL ρ xs vs → VRL ρ' (shL k xs) vs
  | _, _, .nil => .nil
  | _, _, .cons e t => .cons (VR.sh h e) (VRL.sh h t)
end
end

theorem shL_length (k : Nat) : ∀ l : List AV, (shL k l).length = l.length
  | [] => rfl
  | x :: l => by simp [shL, shL_length k l]
theorem shE_keys (k : Nat) : ∀ l : List (AV × AV), (shE k l).map (·.1) = shL k (l.map (·.1))
  | [] => rfl
  | (a, b) :: l => by simp [shE, shL, shE_keys k l]
theorem shE_vals (k : Nat) : ∀ l : List (AV × AV), (shE k l).map (·.2) = shL k (l.map (·.2))
  | [] => rfl
  | (a, b) :: l => by simp [shE, shL, shE_vals k l]
theorem sh_key (k : Nat) (x : AV) (h : isKey x = true) : sh k x = x := by
  cases x <;> simp [isKey] at h <;> rfl
theorem shE_isKey (k : Nat) : ∀ l : List (AV × AV), l.all (fun e => isKey e.1) = true → (shE k l).all (fun e => isKey e.1) = true
  | [], _ => rfl
  | (a, b) :: l, h => by
    simp only [List.all_cons, Bool.and_eq_true] at h
    simp only [shE, List.all_cons, Bool.and_eq_true]
    exact ⟨by rw [sh_key k a h.1]; exact h.1, shE_isKey k l h.2⟩

theorem RelBlk.sh {P : Program} {ρ ρ' : Loc} {k : Nat} {w : World} {c cap : Nat} {x : Blk} (h : ∀ b x, ρ b = some x → ρ' (k + b) = some x) (hx : RelBlk P ρ w c cap x) : RelBlk P ρ' w c cap (shB k x) := by
  cases x with
  | row e g cs =>
    obtain ⟨vs, h1, h2, h3, h4, h5⟩ := hx
    refine ⟨vs, h1, by rw [shL_length]; exact h2, ?_, fun hg => by rw [shL_length]; exact h4 hg, h5⟩
    rw [shL_length]
    exact VRL.sh h h3
  | map es =>
    obtain ⟨ents, clock, h1, h2, h3, h4⟩ := hx
    refine ⟨ents, clock, h1, ?_, ?_, shE_isKey k es h4⟩
    · rw [shE_keys]; exact VRL.sh h h2
    · rw [shE_vals]; exact VRL.sh h h3

theorem addH_get : ∀ (l : List (Nat × Blk)) (h : Tr) (b : Nat) (x : Blk), (addH l h).get b = some x → (b, x) ∈ l ∨ h.get b = some x
  | [], h, b, x, e => .inr e
  | (i, y) :: l, h, b, x, e => by
    simp only [addH, Tr.get_set] at e
    split at e
    · rename_i hb
      subst hb
      cases e
      exact .inl (by simp)
    · rcases addH_get l h b x e with h1 | h1
      · exact .inl (by simp [h1])
      · exact .inr h1
theorem addH_other : ∀ (l : List (Nat × Blk)) (h : Tr) (b : Nat), (∀ x, (b, x) ∉ l) → (addH l h).get b = h.get b
  | [], h, b, _ => rfl
  | (i, y) :: l, h, b, hn => by
    simp only [addH, Tr.get_set]
    rw [if_neg (fun e => hn y (by simp [e])), addH_other l h b fun x hx => hn x (by simp [hx])]
theorem mem_shA {k : Nat} : ∀ {l : List (Nat × Blk)} {b : Nat} {x : Blk}, (b, x) ∈ shA k l → ∃ i y, (i, y) ∈ l ∧ b = k + i ∧ x = shB k y
  | (i, y) :: l, b, x, h => by
    simp only [shA, List.mem_cons, Prod.mk.injEq] at h
    rcases h with ⟨rfl, rfl⟩ | h
    · exact ⟨i, y, by simp, rfl, rfl⟩
    · obtain ⟨j, z, h1, h2, h3⟩ := mem_shA h
      exact ⟨j, z, by simp [h1], h2, h3⟩
theorem holdsB_mem {s : AS} : ∀ {l : List (Nat × Blk)}, holdsB s l = true → ∀ i b, (i, b) ∈ l → s.get i = some b
  | [], _, i, b, h => by cases h
  | (j, c) :: l, h, i, b, hm => by
    simp only [holdsB] at h
    split at h
    · rename_i hb
      simp only [List.mem_cons, Prod.mk.injEq] at hm
      rcases hm with ⟨rfl, rfl⟩ | hm
      · exact blkBeq_eq hb
      · exact holdsB_mem h i b hm
    · cases h

theorem memo_sound {P : Program} {I : Nat → World → Prop} {f : FuncId} {args : List AV} {s1 : AS} {V : AV} {B : List (Nat × Blk)}
    (hS : ∀ base w0 ρ w (vargs : Array Value), I base w0 → Rel P base w0 ρ ⟨.nil, 0⟩ w → VRL ρ args vargs.toList →
      Calls P f vargs w fun e w' => ∃ ρ', Rel P base w0 ρ' s1 w' ∧ Step ρ ⟨.nil, 0⟩ w ρ' s1 w' ∧ EndR ρ' (.ret V) e)
    (hI : ∀ base w0 w, I base w0 → Below base w0 w → base ≤ w.heap.size → I w.heap.size w)
    (hargs : ∀ ρ vs, VRL ρ args vs → VRL (fun _ => none) args vs)
    (hB : ∀ i b, (i, b) ∈ B → s1.get i = some b) :
    ∀ base w0 ρ s w (vargs : Array Value), I base w0 → Rel P base w0 ρ s w → VRL ρ args vargs.toList →
      Calls P f vargs w fun e w' => ∃ ρ', Rel P base w0 ρ' (addAll s (shA s.n B) (s.n + s1.n)) w' ∧ Step ρ s w ρ' (addAll s (shA s.n B) (s.n + s1.n)) w' ∧ EndR ρ' (.ret (sh s.n V)) e := by
  intro base w0 ρ s w vargs hi hr ha
  have h0 : Rel P w.heap.size w (fun _ => none) ⟨.nil, 0⟩ w := {
    live := fun b x h => by cases h
    inj := fun b b' x x' c k k' h => by cases h
    fresh := fun b _ => ⟨rfl, rfl⟩
    bound := fun b c k h => by cases h
    below := Below.refl _ _
    size := Nat.le_refl _ }
  refine (hS w.heap.size w _ w vargs (hI base w0 w hi hr.below hr.size) h0 (hargs ρ _ ha)).mono fun e w' ⟨ρ1, hr1, _, he⟩ => ?_
  have hBl := hr1.below
  let ρ2 : Loc := fun b => if b < s.n then ρ b else ρ1 (b - s.n)
  have lo : ∀ b, b < s.n → ρ2 b = ρ b := fun b hb => if_pos hb
  have up : ∀ b x, ρ1 b = some x → ρ2 (s.n + b) = some x := fun b x hx => by
    show (if s.n + b < s.n then _ else ρ1 (s.n + b - s.n)) = _
    rw [if_neg (by omega), Nat.add_sub_cancel_left]
    exact hx
  have hi' : ∀ b, ¬ b < s.n → ρ2 b = ρ1 (b - s.n) := fun b hb => if_neg hb
  have ext : LExt ρ ρ2 := fun b x hx => by
    by_cases hb : b < s.n
    · rw [lo b hb]; exact hx
    · rw [(hr.fresh b (by omega)).2] at hx; cases hx
  have get : ∀ b x, (addAll s (shA s.n B) (s.n + s1.n)).get b = some x → (b < s.n ∧ s.get b = some x) ∨ ∃ i y, b = s.n + i ∧ x = shB s.n y ∧ s1.get i = some y := fun b x hx => by
    rcases addH_get _ _ b x hx with h1 | h1
    · obtain ⟨i, y, h2, h3, h4⟩ := mem_shA h1
      exact .inr ⟨i, y, h3, h4, hB i y h2⟩
    · refine .inl ⟨?_, h1⟩
      rcases Nat.lt_or_ge b s.n with h2 | h2
      · exact h2
      · have h3 := (hr.fresh b h2).1
        have h1' : s.get b = some x := h1
        rw [h3] at h1'
        cases h1'
  have new : ∀ i y, s1.get i = some y → ∃ c cap, ρ1 i = some (c, cap) ∧ w.heap.size ≤ c ∧ RelBlk P ρ1 w' c cap y := fun i y h => hr1.live i y h
  refine ⟨ρ2, ⟨fun b x hx => ?_, fun b b' x x' c k1 k2 hx hx' hc hc' => ?_, fun b hb => ⟨?_, ?_⟩, fun b c k1 hc => ?_, hr.below.trans (hBl.mono hr.size), Nat.le_trans hr.size hBl.size⟩,
    ⟨lo, fun c hc _ => hBl.block c hc, fun c hc => ?_, hBl.size, Nat.le_add_right _ _, fun b hb hd => ?_⟩, ?_⟩
  · rcases get b x hx with ⟨h1, h2⟩ | ⟨i, y, rfl, rfl, h3⟩
    · obtain ⟨c, k1, h3, h4, h5⟩ := hr.live b x h2
      exact ⟨c, k1, ext _ _ h3, h4, RelBlk.mono ext (hBl.block c (hr.bound b c k1 h3)) h5⟩
    · obtain ⟨c, k1, h4, h5, h6⟩ := new i y h3
      exact ⟨c, k1, up _ _ h4, Nat.le_trans hr.size h5, RelBlk.sh up h6⟩
  · rcases get b x hx with ⟨h1, h2⟩ | ⟨i, y, rfl, rfl, h3⟩ <;> rcases get b' x' hx' with ⟨h1', h2'⟩ | ⟨i', y', rfl, rfl, h3'⟩
    · rw [lo _ h1] at hc
      rw [lo _ h1'] at hc'
      exact hr.inj b b' x x' c k1 k2 h2 h2' hc hc'
    · rw [lo _ h1] at hc
      obtain ⟨c2, k3, h4, h5, -⟩ := new i' y' h3'
      rw [up _ _ h4] at hc'
      cases hc'
      have := hr.bound b _ _ hc
      omega
    · rw [lo _ h1'] at hc'
      obtain ⟨c2, k3, h4, h5, -⟩ := new i y h3
      rw [up _ _ h4] at hc
      cases hc
      have := hr.bound b' _ _ hc'
      omega
    · obtain ⟨c2, k3, h4, -, -⟩ := new i y h3
      obtain ⟨c3, k4, h4', -, -⟩ := new i' y' h3'
      rw [up _ _ h4] at hc
      rw [up _ _ h4'] at hc'
      cases hc
      cases hc'
      rw [hr1.inj i i' y y' _ _ _ h3 h3' h4 h4']
  · cases hg : (addAll s (shA s.n B) (s.n + s1.n)).get b with
    | none => rfl
    | some x =>
      have hb' : s.n + s1.n ≤ b := hb
      rcases get b x hg with ⟨h1, _⟩ | ⟨i, y, rfl, -, h3⟩
      · omega
      · have := (hr1.fresh i (by omega)).1
        rw [h3] at this
        cases this
  · have hb' : s.n + s1.n ≤ b := hb
    rw [hi' b (by omega)]
    exact (hr1.fresh (b - s.n) (by omega)).2
  · by_cases hb : b < s.n
    · rw [lo b hb] at hc
      exact Nat.lt_of_lt_of_le (hr.bound b c k1 hc) hBl.size
    · rw [hi' b hb] at hc
      exact hr1.bound _ c k1 hc
  · obtain ⟨b, x, k1, hx, hc⟩ := hc
    rcases get b x hx with ⟨h1, h2⟩ | ⟨i, y, rfl, rfl, h3⟩
    · rw [lo _ h1] at hc
      exact .inr ⟨b, x, k1, h2, hc⟩
    · obtain ⟨c2, k3, h4, h5, -⟩ := new i y h3
      rw [up _ _ h4] at hc
      cases hc
      exact .inl h5
  · cases hg : (addAll s (shA s.n B) (s.n + s1.n)).get b with
    | none => rfl
    | some x =>
      rcases get b x hg with ⟨_, h2⟩ | ⟨i, y, rfl, -, h3⟩
      · rw [hd] at h2; cases h2
      · omega
  · cases e with
    | returned v => exact VR.sh up he
    | panicked _ => exact he.elim
    | _ => exact he.elim
end Go.Ex
