/-
  Part of the proof of: The call of SurfaceHides (libevolutionlaw09) returns true at every input. This text: an executor of the loaded code over abstract values, and its soundness.
  No condition: every input.
-/
import Derived.Test.YtkcpkgdhkjaboaaGreatExC
import Derived.Orders
set_option linter.unusedVariables false
set_option linter.unusedSimpArgs false
/-! # Regions of open order: single steps -/
namespace Go.Ex
open Go.RowKit

section
variable {P : Program} {X : FuncId → Bool} {Γ : Gam} {s : AS}

theorem placed_congr {pl : Nat → Option (Nat × Nat)} {fr fr' : Frm} : ∀ (l : List (Nat × Operand)), (∀ p ∈ l, ev fr p.2 = ev fr' p.2) → placed pl fr l = placed pl fr' l
  | [], _ => rfl
  | (i, x) :: l, h => by
    simp only [placed]
    rw [placed_congr l fun p hp => h p (List.mem_cons_of_mem _ hp), h (i, x) (List.mem_cons_self ..)]
theorem aop_congr {fr fr' : Frm} {o : Oper} (h : ∀ x ∈ o.op.operands, ev fr x = ev fr' x) : aop P X Γ fr s o = aop P X Γ fr' s o := by
  cases ho : o.op <;> simp only [Op.operands, ho] at h <;> simp only [aop, ho]
  case call c =>
    have h1 : c.args.toList.map (ev fr) = c.args.toList.map (ev fr') := List.map_congr_left fun x hx => h x (by simp [Call.operands, Array.mem_toList_iff.1 hx])
    cases hc : c.callee with
    | value g =>
      have h2 : ev fr g = ev fr' g := h g (by simp [Call.operands, hc])
      cases g with
      | func f =>
        simp only [h1]
        cases hl : c.args.toList with
        | nil => rfl
        | cons y l => cases l with
          | nil => rfl
          | cons z l => cases l with
            | nil =>
              have : c.args.toList = [y, z] := hl
              rw [hl] at h1
              simp only [List.map_cons, List.map_nil, List.cons.injEq, and_true] at h1
              simp only [h1.1, h1.2]
            | cons => rfl
      | _ => simp only [h1, h2]
    | invoke r m => rfl
    | builtin b =>
      have hb : ∀ (l : List Operand), l.map (ev fr) = l.map (ev fr') → ∀ T : List TypeId, aop P X Γ fr s { o with op := .call { c with callee := .builtin b, args := l.toArray, argTypes := T.toArray } } = aop P X Γ fr' s { o with op := .call { c with callee := .builtin b, args := l.toArray, argTypes := T.toArray } } := by
        intro l hl T
        rcases l with _ | ⟨y, _ | ⟨z, _ | ⟨u, l⟩⟩⟩ <;> simp only [List.map_cons, List.map_nil, List.cons.injEq, and_true] at hl <;> rcases T with _ | ⟨t1, _ | ⟨t2, _ | ⟨t3, T⟩⟩⟩ <;> cases b <;> first
          | rfl
          | (simp only [aop, hl])
          | (simp only [aop, hl.1, hl.2])
      have := hb c.args.toList h1 c.argTypes.toList
      simp only [aop] at this
      simpa using this
  case build t ps => simp only [placed_congr ps.toList fun p hp => h p.2 (by simp; exact ⟨p.1, Array.mem_toList_iff.1 hp⟩)]
  case buildSlice t n ps => simp only [placed_congr ps.toList fun p hp => h p.2 (by simp; exact ⟨p.1, Array.mem_toList_iff.1 hp⟩)]
  case makeFunc fn first captured => rw [List.map_congr_left (l := captured.toList) fun x hx => h x (by simp [Array.mem_toList_iff.1 hx])]
  case slice t x lo hi mx =>
    have h1 := h x (by simp)
    have h2 : lo.map (ev fr) = lo.map (ev fr') := by cases lo <;> simp_all
    have h3 : hi.map (ev fr) = hi.map (ev fr') := by cases hi <;> simp_all
    have h4 : mx.map (ev fr) = mx.map (ev fr') := by cases mx <;> simp_all
    simp only [h1, h2, h3, h4]
  all_goals first
    | rfl
    | (simp only [List.mem_cons, List.not_mem_nil, or_false, forall_eq_or_imp, forall_eq, Array.mem_def] at h; simp only [h])

theorem q_indep {fr : Frm} {o : Oper} (h : okOf o = .q) (s' : AS) : aop P X Γ fr s o = aop P X Γ fr s' o := by
  cases ho : o.op <;> simp only [okOf, ho, reduceCtorEq] at h <;> simp only [aop, ho]
  case call c =>
    cases hc : c.callee with
    | value g => rw [hc] at h; cases h
    | invoke r m => rfl
    | builtin b =>
      rw [hc] at h
      generalize c.args.toList = l
      generalize c.argTypes.toList = T
      rcases l with _ | ⟨y, _ | ⟨z, _ | ⟨u, l⟩⟩⟩ <;> rcases T with _ | ⟨t1, _ | ⟨t2, T⟩⟩ <;> cases b <;> first
        | rfl
        | (simp only [reduceCtorEq] at h)

/-- A new block, told by itself. -/
def RelNew (ρ : Loc) (x : Blk) (o : Obj) : Prop := (∃ e cs vs, x = .row e false cs ∧ o = .cells vs e ∧ VRL ρ cs vs.toList) ∨ (x = .map [] ∧ o = .map #[] 0)

variable {base : Nat} {w0 w : World} {ρ : Loc}

theorem lite_ok {fr : Frm} {a : Act} {o : Oper} {y : AV} {s' : AS} (hk : okOf o = .lite) (hf : FR ρ fr a.tmps) (h : aop P X Γ fr s o = .st (some (y, s'))) (w : World) :
    ∃ x ob v, (execOp a.eval o).run P w = .ok (.value v) (w.alloc ob) ∧ s'.get s.n = some x ∧ RelNew ρ x ob ∧ ∀ ρ' : Loc, ρ' s.n = some (w.heap.size, 0) → VR ρ' y v := by
  have box : ∀ {e x v}, VR ρ x v → newBox s e x = some (y, s') → ∃ b, (newVar e v).run P w = .ok ⟨w.heap.size, 0, none⟩ (w.alloc (.cells v.cells e)) ∧ s'.get s.n = some b ∧ RelNew ρ b (.cells v.cells e) ∧ ∀ ρ' : Loc, ρ' s.n = some (w.heap.size, 0) → VR ρ' y (.pointer (some ⟨w.heap.size, 0, none⟩)) := by
    intro e x v hx h
    unfold newBox at h
    split at h
    · cases h
    · rename_i cs hc
      unfold newRow at h
      split at h
      · cases h
        exact ⟨_, by simp [newVar, Go.newRow], (AS.get_new _ _ _).trans (if_pos rfl), .inl ⟨_, _, _, rfl, rfl, hx.cells hc⟩, fun ρ' hρ => .ptr hρ⟩
      · cases h
  cases ho : o.op <;> simp only [okOf, ho, reduceCtorEq] at hk <;> simp only [aop, ho, reduceCtorEq, OpR.st.injEq] at h
  case alloc e =>
    split at h
    · rename_i z hz
      simp only [OpR.st.injEq] at h
      obtain ⟨zv, hzr, hzv⟩ := run_zero (ρ := ρ) (w := w) hz
      obtain ⟨b, h1, h2, h3, h4⟩ := box hzv h
      refine ⟨b, _, _, ?_, h2, h3, h4⟩
      simp only [execOp, ho]
      exact v_run' (by simp [Instr.alloc, hzr, h1])
    · cases h
  case box e z =>
    obtain ⟨b, h1, h2, h3, h4⟩ := box (hf.ev z) h
    refine ⟨b, _, _, ?_, h2, h3, h4⟩
    simp only [execOp, ho]
    exact v_run' (by simp [Instr.box, h1])
  case buildSlice t len parts =>
    split at h
    · rename_i e hu
      split at h
      · rename_i n z hs hz
        split at h
        · rename_i zc hc
          split at h
          · rename_i hn
            split at h
            · rename_i l hp
              simp only [OpR.st.injEq] at h
              obtain ⟨zv, hzr, hzv⟩ := run_zero (ρ := ρ) (w := w) hz
              simp only [Bool.and_eq_true] at hn
              have hn1 := Nat.eq_of_beq_eq_true hn.1
              have hn2 := Nat.le_of_ble_eq_true hn.2
              have hzc := hzv.cells hc
              have hzs : zv.cells.size = n := by have := hzc.length; simp at this; omega
              unfold buildS at h
              split at h
              · cases h
              · rename_i cs hfl
                split at h
                · cases h
                  have h0 : VRL ρ (rep len zc) ((Array.range (len * n)).map fun i => zv.cells[i % zv.cells.size]!).toList := by
                    rw [← hzs, zeros_eq]
                    exact hzc.flatten_rep len
                  obtain ⟨vs', h1, h2⟩ := fill_ok hf parts.toList hp h0 hfl
                  refine ⟨_, _, .slice (some ⟨w.heap.size, 0, none⟩) len len, ?_, (AS.get_new _ _ _).trans (if_pos rfl), .inl ⟨_, _, _, rfl, rfl, h2⟩, fun ρ' hρ => .slice (k := 0) hρ (Nat.le_refl _)⟩
                  have hpm : (parts.map fun p => (p.1, a.eval p.2)).toList = parts.toList.map fun p => (p.1, a.eval p.2) := by simp
                  have hlim : ¬ len * n > 2 ^ 24 := by omega
                  simp only [execOp, ho]
                  refine v_run' ?_
                  by_cases h0n : len * n = 0
                  · have he : ((Array.range (len * n)).map fun i => (#[] : Array Value)[i % (#[] : Array Value).size]!) = ((Array.range (len * n)).map fun i => zv.cells[i % zv.cells.size]!) := by simp [h0n]
                    simp only [Instr.buildSlice, Sem.run_bind, run_underlying hu, Result.andThen_ok, run_size hs, h0n, if_true, Sem.run_pure, gt_iff_lt, Nat.not_lt_zero, if_false]
                    rw [h0n] at he h1
                    simp only [he, hpm, h1, Sem.run_bind, Sem.run_pure, Result.andThen_ok]
                    rfl
                  · simp only [Instr.buildSlice, Sem.run_bind, run_underlying hu, Result.andThen_ok, run_size hs, hlim, if_false, h0n, hzr, Sem.run_pure, hpm, h1]
                    rfl
                · cases h
            · cases h
          · cases h
        · cases h
      · cases h
    · cases h
  case makeSlice t lo co =>
    split at h
    · rename_i e hu
      split at h
      · rename_i esz z hs hz
        split at h
        · rename_i zc hzc
          simp only [OpR.st.injEq] at h
          have hl := hf.ev lo
          have hc := hf.ev co
          obtain ⟨zv, hzr, hzv⟩ := run_zero (ρ := ρ) (w := w) hz
          obtain ⟨i, hi⟩ := szOf_info hs
          unfold makeS at h
          split at h
          · rename_i l c hle hce
            rw [hle] at hl
            rw [hce] at hc
            split at h
            · rename_i hb
              cases h
              simp only [Bool.and_eq_true, decide_eq_true_eq] at hb
              obtain ⟨⟨⟨⟨⟨hb1, hb0⟩, hb2⟩, hb3⟩, hb4⟩, hb5⟩ := hb
              have hb1 := Nat.le_of_ble_eq_true hb1
              have hb0 := Nat.le_of_ble_eq_true hb0
              have hzl := Nat.eq_of_beq_eq_true hb5
              have hbi : bytesOf P e = i.bytes := by simp [bytesOf, hi]
              rw [hbi] at hb1
              have hzs : zv.cells.size = esz := by have := (hzv.cells hzc).length; simp at this; omega
              have h40 : (2 : Nat) ^ 40 = 1099511627776 := by decide
              have hwl : IntKind.i64.wrap l = l := IntWalk.i64_in l (by omega)
              have hwc : IntKind.i64.wrap c = c := IntWalk.i64_in c (by omega)
              have hc0 : ((c.toNat : Nat) : Int) = c := Int.toNat_of_nonneg (by omega)
              have h1 : ¬ ((i.bytes : Int) * c > 2 ^ 48) := by
                rw [← hc0, ← Int.natCast_mul, Nat.mul_comm]
                have : (2 : Int) ^ 48 = ((281474976710656 : Nat) : Int) := by decide
                rw [this]
                omega
              have h2 : ¬ c < 0 := by omega
              have h3 : ¬ l < 0 := by omega
              have h4 : ¬ l > c := by omega
              have h0 : VRL ρ (rep c.toNat zc) (((Array.range (c.toNat * esz)).map fun i => zv.cells[i % zv.cells.size]!)).toList := by
                rw [← hzs, zeros_eq]
                exact (hzv.cells hzc).flatten_rep _
              refine ⟨_, _, .slice (some ⟨w.heap.size, 0, none⟩) l.toNat c.toNat, ?_, (AS.get_new _ _ _).trans (if_pos rfl), .inl ⟨_, _, _, rfl, rfl, h0⟩, fun ρ' hρ => .slice (k := 0) hρ (by omega)⟩
              simp only [execOp, ho]
              refine v_run' ?_
              rw [hl.int_inv, hc.int_inv]
              simp only [Instr.makeSlice, Sem.run_bind, run_underlying hu, Result.andThen_ok, asInt, asIntOf, Sem.run_pure, run_info hi, hwl, hwc]
              rw [if_neg (by simp only [Bool.or_eq_true, decide_eq_true_eq]; rintro (((h | h) | h) | h) <;> contradiction)]
              simp only [Sem.run_bind, run_askRoom, Result.andThen_ok, run_size hs, Sem.run_ite]
              split
              · rename_i hz0
                have he : ((Array.range (c.toNat * esz)).map fun x => (#[] : Array Value)[x % (#[] : Array Value).size]!) = ((Array.range (c.toNat * esz)).map fun i => zv.cells[i % zv.cells.size]!) := by simp [hz0]
                simp only [Sem.run_bind, Sem.run_pure, Result.andThen_ok, he, Go.newRow, run_newObj_alloc]
              · simp only [Sem.run_bind, Sem.run_pure, Result.andThen_ok, hzr, Go.newRow, run_newObj_alloc]
            · cases h
          · cases h
        · cases h
      · cases h
    · cases h
  case makeMap t r =>
    split at h
    · simp only [OpR.st.injEq] at h
      cases h
      refine ⟨_, _, .map (some w.heap.size), ?_, (AS.get_new _ _ _).trans (if_pos rfl), .inr ⟨rfl, rfl⟩, fun ρ' hρ => .map (k := 0) hρ⟩
      simp only [execOp, ho]
      exact v_run' (by simp [Instr.makeMap])
    · cases h
  case call c =>
    exfalso
    split at hk <;> (try split at hk) <;> cases hk
end
end Go.Ex
/-! # Parts of a state -/
namespace Go.Ex
open Go.RowKit

section
variable {P : Program} {base : Nat} {w0 w w' : World} {ρ ρ' : Loc} {s s' t t' : AS}

/-- A state that says less. -/
theorem Rel.sub (hr : Rel P base w0 ρ t w) (hn : s.n = t.n) (h : ∀ b x, s.get b = some x → t.get b = some x) : Rel P base w0 ρ s w where
  live b x hx := hr.live b x (h b x hx)
  inj b b' x x' c k k' h1 h2 h3 h4 := hr.inj b b' x x' c k k' (h _ _ h1) (h _ _ h2) h3 h4
  fresh b hb := by
    obtain ⟨h1, h2⟩ := hr.fresh b (hn ▸ hb)
    refine ⟨?_, h2⟩
    cases hq : s.get b with
    | none => rfl
    | some x => rw [h b x hq] at h1; cases h1
  bound := hr.bound
  below := hr.below
  size := hr.size
theorem Rel.congr (hr : Rel P base w0 ρ t w) (hn : s.n = t.n) (h : ∀ b, s.get b = t.get b) : Rel P base w0 ρ s w := hr.sub hn fun b x hx => h b ▸ hx
theorem Step.congr (hs : Step ρ s w ρ' t w') (hn : t'.n = t.n) (h : ∀ b, t'.get b = t.get b) : Step ρ s w ρ' t' w' :=
  ⟨hs.same, hs.keep, fun c ⟨b, x, k, h1, h2⟩ => hs.new c ⟨b, x, k, h b ▸ h1, h2⟩, hs.size, hn ▸ hs.n, fun b hb hd => (h b).trans (hs.dead b hb hd)⟩

/-- What a step does to a part of a state, it does to the whole. -/
theorem Rel.frame (hr : Rel P base w0 ρ t w) (hn : s.n = t.n) (h : ∀ b x, s.get b = some x → t.get b = some x) (hr' : Rel P base w0 ρ' s' w') (hs : Step ρ s w ρ' s' w')
    (hn' : t'.n = s'.n) (h1 : ∀ b x, s'.get b = some x → t'.get b = some x) (h2 : ∀ b x, t'.get b = some x → s'.get b = some x ∨ (t.get b = some x ∧ s.get b = none)) :
    Rel P base w0 ρ' t' w' ∧ Step ρ t w ρ' t' w' := by
  have hlt : ∀ b x, t.get b = some x → b < t.n := fun b x hx => by
    rcases Nat.lt_or_ge b t.n with h | h
    · exact h
    · rw [(hr.fresh b h).1] at hx; cases hx
  have hext := hs.ext (hr.sub hn h)
  have extra : ∀ b x, t.get b = some x → s.get b = none → ∃ c k, ρ b = some (c, k) ∧ ρ' b = some (c, k) ∧ base ≤ c ∧ c < w.heap.size ∧ ¬ LiveAt ρ s c ∧ RelBlk P ρ w c k x := by
    intro b x hx hd
    obtain ⟨c, k, h3, h4, h5⟩ := hr.live b x hx
    refine ⟨c, k, h3, hext _ _ h3, h4, hr.bound b c k h3, ?_, h5⟩
    rintro ⟨b1, x1, k1, h6, h7⟩
    have := hr.inj b1 b x1 x c k1 k (h _ _ h6) hx h7 h3
    subst this
    rw [hd] at h6
    cases h6
  refine ⟨⟨fun b x hx => ?_, fun b b' x x' c k k' hx hx' hc hc' => ?_, fun b hb => ?_, hr'.bound, hr'.below, hr'.size⟩, ⟨fun b hb => hs.same b (hn ▸ hb), fun c hc hn' => hs.keep c hc fun ⟨b, x, k, h3, h4⟩ => hn' ⟨b, x, k, h _ _ h3, h4⟩, ?_, hs.size, by rw [hn', ← hn]; exact hs.n, fun b hb hd => ?_⟩⟩
  · rcases h2 b x hx with h3 | ⟨h3, h4⟩
    · exact hr'.live b x h3
    · obtain ⟨c, k, h5, h6, h7, h8, h9, h10⟩ := extra b x h3 h4
      exact ⟨c, k, h6, h7, h10.mono hext (hs.keep c h8 h9)⟩
  · rcases h2 b x hx with h3 | ⟨h3, h4⟩ <;> rcases h2 b' x' hx' with h5 | ⟨h5, h6⟩
    · exact hr'.inj b b' x x' c k k' h3 h5 hc hc'
    · obtain ⟨c1, k1, h7, h8, h9, h10, h11, h12⟩ := extra b' x' h5 h6
      rw [h8] at hc'
      cases hc'
      rcases hs.new c ⟨b, x, k, h3, hc⟩ with h | h
      · omega
      · exact absurd h h11
    · obtain ⟨c1, k1, h7, h8, h9, h10, h11, h12⟩ := extra b x h3 h4
      rw [h8] at hc
      cases hc
      rcases hs.new c ⟨b', x', k', h5, hc'⟩ with h | h
      · omega
      · exact absurd h h11
    · obtain ⟨c1, k1, h7, h8, h9, h10, h11, h12⟩ := extra b x h3 h4
      obtain ⟨c2, k2, h7', h8', -⟩ := extra b' x' h5 h6
      rw [h8] at hc
      rw [h8'] at hc'
      cases hc
      cases hc'
      exact hr.inj b b' x x' c k k' h3 h5 h7 h7'
  · rw [hn'] at hb
    obtain ⟨h3, h4⟩ := hr'.fresh b hb
    refine ⟨?_, h4⟩
    cases hq : t'.get b with
    | none => rfl
    | some x =>
      rcases h2 b x hq with h5 | ⟨h5, -⟩
      · rw [h5] at h3; cases h3
      · have := hlt b x h5
        have := hs.n
        omega
  · rintro c ⟨b, x, k, hx, hc⟩
    rcases h2 b x hx with h3 | ⟨h3, h4⟩
    · rcases hs.new c ⟨b, x, k, h3, hc⟩ with h5 | ⟨b1, x1, k1, h5, h6⟩
      · exact .inl h5
      · exact .inr ⟨b1, x1, k1, h _ _ h5, h6⟩
    · obtain ⟨c1, k1, h7, h8, h9, h10, h11, h12⟩ := extra b x h3 h4
      rw [h8] at hc
      cases hc
      exact .inr ⟨b, x, k, h3, h7⟩
  · have hd' : s.get b = none := by
      cases hq : s.get b with
      | none => rfl
      | some x => rw [h b x hq] at hd; cases hd
    have h3 := hs.dead b (hn ▸ hb) hd'
    cases hq : t'.get b with
    | none => rfl
    | some x =>
      rcases h2 b x hq with h5 | ⟨h5, -⟩
      · rw [h5] at h3; cases h3
      · rw [hd] at h5; cases h5

/-- A new block at a place that was kept for it. -/
theorem Rel.addAt (hr : Rel P base w0 ρ s w) {id : Nat} {x : Blk} {o : Obj} (hx : RelNew ρ x o) (hid : id < s.n) (hg : s.get id = none) (hρ : ρ id = none) (hn : t.n = s.n) (ht : ∀ b, t.get b = if b = id then some x else s.get b) :
    Rel P base w0 (ρ.add id (w.heap.size, 0)) t (w.alloc o) ∧ LExt ρ (ρ.add id (w.heap.size, 0)) ∧
      (∀ {ρ0 : Loc} {s0 : AS} {wa : World}, Step ρ0 s0 wa ρ s w → s0.n ≤ id → Step ρ0 s0 wa (ρ.add id (w.heap.size, 0)) t (w.alloc o)) := by
  have hext : LExt ρ (ρ.add id (w.heap.size, 0)) := by
    intro b y hy
    unfold Loc.add
    split
    · rename_i e; subst e; rw [hρ] at hy; cases hy
    · exact hy
  have hold : ∀ j, j ≠ id → (ρ.add id (w.heap.size, 0)) j = ρ j := fun j hj => by simp [Loc.add, hj]
  have hnew : (ρ.add id (w.heap.size, 0)) id = some (w.heap.size, 0) := by simp [Loc.add]
  have hkeep : ∀ c, c < w.heap.size → (w.alloc o).heap[c]? = w.heap[c]? := fun c hc => Below.heap_alloc w o c hc
  have hblk : RelBlk P (ρ.add id (w.heap.size, 0)) (w.alloc o) w.heap.size 0 x := by
    rcases hx with ⟨e, cs, vs, rfl, rfl, h⟩ | ⟨rfl, rfl⟩
    · have hl : vs.size = cs.length := by simpa using h.length.symm
      refine ⟨vs, heap_alloc_at w _, Nat.le_of_eq hl.symm, ?_, fun _ => hl, fun h => by cases h⟩
      rw [List.take_of_length_le (by simp [hl])]
      exact h.mono hext
    · exact ⟨#[], 0, heap_alloc_at w _, .nil, .nil, rfl⟩
  refine ⟨⟨fun j y hj => ?_, fun j j' y y' c q q' hj hj' hq hq' => ?_, fun j hj => ?_, fun j c q hq => ?_, hr.below.alloc hr.size o, by have := hr.size; simp; omega⟩, hext, fun {ρ0 s0 wa} hs h0 => ?_⟩
  · rw [ht] at hj
    split at hj
    · rename_i e; subst e; cases hj
      exact ⟨w.heap.size, 0, hnew, hr.size, hblk⟩
    · rename_i e
      obtain ⟨c, q, h1, h2, h3⟩ := hr.live j y hj
      exact ⟨c, q, (hold j e).trans h1, h2, h3.mono hext (hkeep c (hr.bound j c q h1))⟩
  · rw [ht] at hj hj'
    by_cases e : j = id
    · by_cases e' : j' = id
      · rw [e, e']
      · rw [e, hnew] at hq
        cases hq
        rw [hold j' e'] at hq'
        exact absurd (hr.bound _ _ _ hq') (Nat.lt_irrefl _)
    · by_cases e' : j' = id
      · rw [e', hnew] at hq'
        cases hq'
        rw [hold j e] at hq
        exact absurd (hr.bound _ _ _ hq) (Nat.lt_irrefl _)
      · rw [if_neg e] at hj
        rw [if_neg e'] at hj'
        rw [hold j e] at hq
        rw [hold j' e'] at hq'
        exact hr.inj j j' y y' c q q' hj hj' hq hq'
  · rw [hn] at hj
    have := hr.fresh j hj
    rw [ht, if_neg (by omega), hold j (by omega)]
    exact this
  · by_cases e : j = id
    · rw [e, hnew] at hq; cases hq; simp
    · rw [hold j e] at hq
      have := hr.bound j c q hq
      simp; omega
  · refine ⟨fun b hb => (hold b (by omega)).trans (hs.same b hb), fun c hc hn' => (hkeep c (Nat.lt_of_lt_of_le hc hs.size)).trans (hs.keep c hc hn'), ?_, by have := hs.size; simp; omega, hn ▸ hs.n, fun b hb hd => ?_⟩
    · rintro c ⟨j, y, q, hj, hq⟩
      rw [ht] at hj
      by_cases e : j = id
      · rw [e, hnew] at hq; cases hq; exact .inl hs.size
      · rw [if_neg e] at hj
        rw [hold j e] at hq
        exact hs.new c ⟨j, y, q, hj, hq⟩
    · rw [ht, if_neg (by omega)]
      exact hs.dead b hb hd
theorem Rel.reserve (hr : Rel P base w0 ρ s w) : Rel P base w0 ρ s.reserve w := ⟨hr.live, hr.inj, fun b hb => hr.fresh b (Nat.le_of_succ_le hb), hr.bound, hr.below, hr.size⟩
theorem Step.reserve (hs : Step ρ s w ρ' t w') : Step ρ s w ρ' t.reserve w' := ⟨hs.same, hs.keep, hs.new, hs.size, Nat.le_succ_of_le hs.n, hs.dead⟩
end

/-! ### equality asked -/
theorem AV.beqL_of (d : Nat) (ih : ∀ a b, AV.beq d a b = true → a = b) : ∀ (a b : List AV), AV.beq.beqL d a b = true → a = b
  | [], [], _ => rfl
  | a :: l, b :: m, h => by
    simp only [AV.beq.beqL, Bool.and_eq_true] at h
    rw [ih a b h.1, AV.beqL_of d ih l m h.2]
  | [], _ :: _, h => by simp [AV.beq.beqL] at h
  | _ :: _, [], h => by simp [AV.beq.beqL] at h
theorem AV.beq_eq : ∀ (d : Nat) (a b : AV), AV.beq d a b = true → a = b
  | 0, _, _, h => by simp [AV.beq] at h
  | d + 1, a, b, h => by
    have ih := AV.beqL_of d (AV.beq_eq d)
    have nb : ∀ {m n : Nat}, Nat.beq m n = true → m = n := fun h => Nat.eq_of_beq_eq_true h
    cases a <;> cases b <;> simp only [AV.beq, Bool.and_eq_true, beq_iff_eq, decide_eq_true_eq, reduceCtorEq, Bool.false_eq_true] at h ⊢
    case bool.bool => rw [h]
    case int.int => rw [h.1, h.2]
    case str.str => rw [nb h]
    case ptr.ptr => rw [nb h.1, nb h.2]
    case slice.slice => rw [nb h.1.1.1, nb h.1.1.2, nb h.1.2, nb h.2]
    case gslice.gslice => rw [nb h.1, nb h.2]
    case part.part => rw [nb h.1.1, nb h.1.2, nb h.2]
    case map.map => rw [nb h]
    case func.func => rw [nb h.1, ih _ _ h.2]
    case iface.iface => rw [nb h.1, AV.beq_eq d _ _ h.2]
    case agg.agg => rw [ih _ _ h]
    case tup.tup => rw [ih _ _ h]
theorem AV.beqL_eq (d : Nat) (a b : List AV) (h : AV.beq.beqL d a b = true) : a = b := AV.beqL_of d (AV.beq_eq d) a b h
theorem blkBeq_eq {x y : Option Blk} (h : blkBeq x y = true) : x = y := by
  unfold blkBeq at h
  split at h
  · simp only [Bool.and_eq_true, beq_iff_eq] at h
    rw [Nat.eq_of_beq_eq_true h.1.1, h.1.2, AV.beqL_eq _ _ _ h.2]
  · cases h

/-! ### what was read -/
section
variable {E : Env} {ops : Array Oper}
theorem bK_inv {o : Option AV} {v : AV} {k : Res} {r : Ex × List AV × AS} (h : bK o v k = some r) : o = some v ∧ k = some r := by
  unfold bK at h
  split at h
  · cases h
  · split at h
    · rename_i hb
      exact ⟨by rw [AV.beq_eq _ _ _ hb], h⟩
    · cases h
theorem watchK_inv {m : Nat} {s : AS} {k : Res} {r : Ex × List AV × AS} : ∀ {wt : List Watch}, watchK E ops m s wt k = some r →
    k = some r ∧ ∀ x ∈ wt, hasBit m x.i = false → gOf ops x.fr x.o (pureOf (aop E.P E.X E.Γ x.fr s x.o)) = some x.v
  | [], h => ⟨h, fun _ hx => by cases hx⟩
  | x :: wt, h => by
    simp only [watchK] at h
    cases hb : hasBit m x.i with
    | true =>
      rw [hb] at h
      obtain ⟨h1, h2⟩ := watchK_inv h
      refine ⟨h1, fun y hy hm => ?_⟩
      rcases List.mem_cons.1 hy with rfl | hy
      · rw [hb] at hm; cases hm
      · exact h2 y hy hm
    | false =>
      rw [hb] at h
      obtain ⟨h0, h⟩ := bK_inv h
      obtain ⟨h1, h2⟩ := watchK_inv h
      refine ⟨h1, fun y hy hm => ?_⟩
      rcases List.mem_cons.1 hy with rfl | hy
      · exact h0
      · exact h2 y hy hm

/-! ### blocks that wait -/
theorem absorb_n (m : Nat) : ∀ (l : List Pend) (s : AS), (absorb m l s).n = s.n
  | [], _ => rfl
  | p :: l, s => by
    simp only [absorb]
    split
    · exact absorb_n m l _
    · exact absorb_n m l s
theorem absorb_get (m : Nat) : ∀ (l : List Pend) (s : AS), l.Pairwise (fun p q => p.id ≠ q.id) →
    (∀ p ∈ l, hasBit m p.i = true → (absorb m l s).get p.id = p.blk) ∧ (∀ b, (∀ p ∈ l, hasBit m p.i = true → p.id ≠ b) → (absorb m l s).get b = s.get b)
  | [], _, _ => ⟨fun _ h => (by cases h), fun _ _ => rfl⟩
  | p :: l, s, hd => by
    obtain ⟨hd1, hd2⟩ := List.pairwise_cons.1 hd
    simp only [absorb]
    cases hb : hasBit m p.i with
    | true =>
      obtain ⟨h1, h2⟩ := absorb_get m l (s.put p.id p.blk) hd2
      refine ⟨fun q hq hm => ?_, fun b hn => ?_⟩
      · rcases List.mem_cons.1 hq with rfl | hq
        · show (absorb m l (s.put q.id q.blk)).get q.id = q.blk
          rw [h2 q.id fun r hr _ e => hd1 r hr e.symm, AS.get_put, if_pos rfl]
        · exact h1 q hq hm
      · show (absorb m l (s.put p.id p.blk)).get b = s.get b
        rw [h2 b fun r hr hm => hn r (List.mem_cons_of_mem _ hr) hm, AS.get_put, if_neg (hn p (List.mem_cons_self ..) hb).symm]
    | false =>
      obtain ⟨h1, h2⟩ := absorb_get m l s hd2
      refine ⟨fun q hq hm => ?_, fun b hn => h2 b fun r hr hm => hn r (List.mem_cons_of_mem _ hr) hm⟩
      rcases List.mem_cons.1 hq with rfl | hq
      · rw [hb] at hm; cases hm
      · exact h1 q hq hm
theorem restP_mem (m : Nat) : ∀ (l : List Pend) (p : Pend), p ∈ restP m l ↔ p ∈ l ∧ hasBit m p.i = false
  | [], p => by simp [restP]
  | q :: l, p => by
    simp only [restP]
    cases hb : hasBit m q.i with
    | true =>
      show p ∈ restP m l ↔ _
      rw [restP_mem m l p, List.mem_cons]
      constructor
      · rintro ⟨h1, h2⟩; exact ⟨.inr h1, h2⟩
      · rintro ⟨rfl | h1, h2⟩
        · rw [hb] at h2; cases h2
        · exact ⟨h1, h2⟩
    | false =>
      show p ∈ q :: restP m l ↔ _
      rw [List.mem_cons, List.mem_cons, restP_mem m l p]
      constructor
      · rintro (rfl | ⟨h1, h2⟩)
        · exact ⟨.inl rfl, hb⟩
        · exact ⟨.inr h1, h2⟩
      · rintro ⟨rfl | h1, h2⟩
        · exact .inl rfl
        · exact .inr ⟨h1, h2⟩
theorem restP_sub (m : Nat) : ∀ (l : List Pend), (restP m l).Sublist l
  | [] => .slnil
  | q :: l => by
    simp only [restP]
    split
    · exact .cons _ (restP_sub m l)
    · exact .cons_cons _ (restP_sub m l)
theorem flush_n : ∀ (l : List Pend) (s : AS), (flush l s).n = s.n
  | [], _ => rfl
  | p :: l, s => flush_n l s
theorem flush_get : ∀ (l : List Pend) (s : AS), l.Pairwise (fun p q => p.id ≠ q.id) →
    (∀ p ∈ l, (flush l s).get p.id = p.blk) ∧ (∀ b, (∀ p ∈ l, p.id ≠ b) → (flush l s).get b = s.get b)
  | [], _, _ => ⟨fun _ h => (by cases h), fun _ _ => rfl⟩
  | p :: l, s, hd => by
    obtain ⟨hd1, hd2⟩ := List.pairwise_cons.1 hd
    obtain ⟨h1, h2⟩ := flush_get l s hd2
    have e : ∀ b, (flush (p :: l) s).get b = if b = p.id then p.blk else (flush l s).get b := fun b => AS.get_put _ _ _ _
    refine ⟨fun q hq => ?_, fun b hn => ?_⟩
    · rw [e]
      rcases List.mem_cons.1 hq with rfl | hq
      · rw [if_pos rfl]
      · rw [if_neg (fun h => hd1 q hq h.symm)]; exact h1 q hq
    · rw [e, if_neg (hn p (List.mem_cons_self ..)).symm]
      exact h2 b fun q hq => hn q (List.mem_cons_of_mem _ hq)
end
end Go.Ex
/-! # Regions of open order: any order comes to the same -/
namespace Go.Ex
open Go.RowKit

def bef (B : List Nat) (i j : Nat) : Prop := hasBit (B.getD i 0) j = true

/-- What is known of the operations and of what stands before each. -/
structure Static (ops : Array Oper) (B : List Nat) : Prop where
  after : ∀ i o, ops[i]? = some o → ∀ e ∈ o.after, Region.binds .any e = true → bef B i e.on
  befA : ∀ i o j, ops[i]? = some o → bef B i j → ∃ e ∈ o.after, Region.binds .any e = true ∧ (j = e.on ∨ bef B e.on j)
  slots : ∀ i j o d, ops[i]? = some o → gslot ops j = some d → i ≠ j → (hasBit (rdOp ops o) d = false ∨ bef B i j ∨ bef B j i) ∧ o.dst ≠ some d

/-- Where all begins, and what is asked. -/
structure Start where
  E : Env
  ops : Array Oper
  B : List Nat
  base : Nat
  w0 : World
  ρ0 : Loc
  s0 : AS
  wa : World
  fr0 : Frm
  a0 : Act
  res : Ex × List AV × AS
  k : Frm → AS → Res

section
variable (S : Start)

def Start.noEff (C : Nat → Prop) (i : Nat) : Prop := ∀ e oe, C e → S.ops[e]? = some oe → isEff (okOf oe) = true → ¬ bef S.B e i

/-- What is known of an operation that was done in the plan. -/
structure RecK (C : Nat → Prop) (fr : Frm) (s : AS) (pend : List Pend) (wt : List Watch) (i : Nat) (o : Oper) (f : Frm) (v : AV) : Prop where
  val : ∀ d, o.dst = some d → fr d = v
  reads : ∀ t, hasBit (rdOp S.ops o) t = true → ((∃ j, bef S.B i j ∧ gslot S.ops j = some t) ∧ f t = fr t) ∨ ((∀ j, bef S.B i j → gslot S.ops j ≠ some t) ∧ f t = S.fr0 t)
  q : okOf o = .q → gOf S.ops f o (pureOf (aop S.E.P S.E.X S.E.Γ f s o)) = some v
  mem : okOf o = .mem → (∃ x ∈ wt, x.i = i ∧ x.o = o ∧ x.fr = f ∧ x.v = v) ∧ (S.noEff C i → gOf S.ops f o (pureOf (aop S.E.P S.E.X S.E.Γ f s o)) = some v)
  lite : okOf o = .lite → S.noEff C i → o.guard = none ∧ ∃ p ∈ pend, p.i = i ∧ ∃ sc s', sc.n = p.id ∧ aop S.E.P S.E.X S.E.Γ f sc o = .st (some (v, s')) ∧ s'.get p.id = p.blk

structure CInv (C : Nat → Prop) (fr : Frm) (s : AS) (pend : List Pend) (wt : List Watch) : Prop where
  lt : ∀ i, C i → i < S.ops.size
  closed : ∀ i j, C i → bef S.B i j → C j
  frame : ∀ t, (∀ j, C j → gslot S.ops j ≠ some t) → fr t = S.fr0 t
  recs : ∀ i o, C i → S.ops[i]? = some o → isEff (okOf o) = false → ∃ f v, RecK S C fr s pend wt i o f v

def did (listed : Array Bool) (i : Nat) : Prop := listed.getD i false = true

structure DK (C : Nat → Prop) (fr : Frm) (s : AS) (pend : List Pend) (listed : Array Bool) (a : Act) (w : World) (ρ : Loc) (sD : AS) (f : Frm) : Prop where
  size : listed.size = S.ops.size
  sub : ∀ i, did listed i → C i
  effs : ∀ i o, C i → S.ops[i]? = some o → isEff (okOf o) = true → did listed i
  closed : ∀ i j, did listed i → bef S.B i j → did listed j
  n : sD.n = s.n
  plus1 : ∀ p ∈ pend, did listed p.i → sD.get p.id = p.blk
  plus2 : ∀ b, (∀ p ∈ pend, did listed p.i → p.id ≠ b) → sD.get b = s.get b
  rel : Rel S.E.P S.base S.w0 ρ sD w
  step : Step S.ρ0 S.s0 S.wa ρ sD w
  free : ∀ p ∈ pend, ¬ did listed p.i → ρ p.id = none
  pendC : ∀ p ∈ pend, C p.i ∧ (∃ o, S.ops[p.i]? = some o ∧ okOf o = .lite) ∧ S.s0.n ≤ p.id ∧ p.id < s.n ∧ s.get p.id = none
  pendId : pend.Pairwise (fun p q => p.id ≠ q.id)
  pendI : pend.Pairwise (fun p q => p.i ≠ q.i)
  rfr : FR ρ f a.tmps
  fr1 : ∀ t, (∃ j, C j ∧ ¬ did listed j ∧ gslot S.ops j = some t) → f t = S.fr0 t
  fr2 : ∀ t, (∀ j, C j → gslot S.ops j = some t → did listed j) → f t = fr t
  sz : a.tmps.size = S.a0.tmps.size
  dfr : a.defers = S.a0.defers
  other : ∀ i, ¬ wrL S.ops.toList i → a.tmps.getD i undef = S.a0.tmps.getD i undef
def DInv (C : Nat → Prop) (fr : Frm) (s : AS) (pend : List Pend) (listed : Array Bool) (a : Act) (w : World) : Prop := ∃ ρ sD f, DK S C fr s pend listed a w ρ sD f

/-- The rest of the plan, as far as it is known to serve. -/
def Run : Nat → (Nat → Prop) → Frm → AS → List Pend → List Watch → Prop
  | 0, _, _, _, _, _ => False
  | n + 1, C, fr, s, pend, wt => CInv S C fr s pend wt ∧ (
      ((∀ i, i < S.ops.size → C i) ∧ ∃ sz : AS, sz.n = s.n ∧ (∀ b, sz.get b = (flush pend s).get b) ∧ S.k fr sz = some S.res) ∨
      (∃ C' fr' s' pend' wt', Run n C' fr' s' pend' wt' ∧ ∀ listed a w, DInv S C fr s pend listed a w → DInv S C' fr' s' pend' listed a w) ∨
      (∃ T : List Nat, (∃ e, e ∈ T) ∧ (∀ i, i < S.ops.size → ¬ C i → ∃ e ∈ T, i = e ∨ bef S.B i e) ∧ ∀ e ∈ T, ∃ o kn, S.ops[e]? = some o ∧ ¬ C e ∧ isEff (okOf o) = true ∧
        opK S.ops fr (absorb (S.B.getD e 0) pend s) o (aop S.E.P S.E.X S.E.Γ fr (absorb (S.B.getD e 0) pend s) o) kn (fun v s' => some (.pan v, [], s')) = some S.res ∧
        ∀ v s', kn v s' = some S.res → Run n (fun i => C i ∨ i = e) (fr.put o.dst v) s' (restP (S.B.getD e 0) pend) wt))

theorem rdOs_bit (l : List Operand) (m i : Nat) : hasBit (l.foldl (fun m x => m ||| rdO x) m) i = true ↔ hasBit m i = true ∨ .tmp i ∈ l := by
  induction l generalizing m with
  | nil => simp
  | cons x l ih =>
    simp only [List.foldl_cons, ih, hasBit_or, Bool.or_eq_true, List.mem_cons]
    have : hasBit (rdO x) i = true ↔ Operand.tmp i = x := by
      cases x <;> simp [rdO, hasBit_eq, bit, Nat.testBit_two_pow]
      exact eq_comm
    rw [this, or_assoc]

/-- Two frames that an operation cannot tell apart. -/
theorem reads_congr {E : Env} {ops : Array Oper} {f g : Frm} {o : Oper} (h : ∀ t, hasBit (rdOp ops o) t = true → f t = g t) :
    (∀ s, aop E.P E.X E.Γ f s o = aop E.P E.X E.Γ g s o) ∧ grd ops f o = grd ops g o := by
  refine ⟨fun s => aop_congr fun x hx => ?_, ?_⟩
  · cases x with
    | tmp t =>
      refine h t ?_
      unfold rdOp
      rw [hasBit_or, Bool.or_eq_true]
      exact .inl ((rdOs_bit _ 0 t).2 (.inr (by simpa using hx)))
    | _ => rfl
  · unfold grd
    cases hg : o.guard with
    | none => rfl
    | some jw =>
      obtain ⟨j, want⟩ := jw
      simp only
      cases ht : gslot ops j with
      | none => rfl
      | some t =>
        simp only [Option.some.injEq, Prod.mk.injEq, and_true]
        refine h t ?_
        unfold rdOp
        rw [hasBit_or, Bool.or_eq_true]
        right
        simp [hg, ht, bit, hasBit_pow]

theorem pw_inj {g : Pend → Nat} : ∀ {l : List Pend}, l.Pairwise (fun p q => g p ≠ g q) → ∀ p ∈ l, ∀ q ∈ l, g p = g q → p = q
  | [], _, p, hp, _, _, _ => by cases hp
  | x :: l, h, p, hp, q, hq, e => by
    obtain ⟨h1, h2⟩ := List.pairwise_cons.1 h
    rcases List.mem_cons.1 hp with hp1 | hp1 <;> rcases List.mem_cons.1 hq with hq1 | hq1
    · rw [hp1, hq1]
    · rw [hp1] at e; exact absurd e (h1 q hq1)
    · rw [hq1] at e; exact absurd e.symm (h1 p hp1)
    · exact pw_inj h2 p hp1 q hq1 e

theorem did_set {listed : Array Bool} {i j : Nat} (hi : i < listed.size) : did (listed.setIfInBounds i true) j ↔ did listed j ∨ j = i := by
  unfold did
  by_cases e : i = j
  · subst e; simp [hi]
  · rw [getD_set_ne false e]
    constructor
    · exact .inl
    · rintro (h | h)
      · exact h
      · exact absurd h.symm e

theorem put_frm_ne {fr : Frm} {d : Option Tmp} {v : AV} {t : Nat} (h : d ≠ some t) : fr.put d v t = fr t := by
  cases d with
  | none => rfl
  | some d =>
    simp only [Frm.put]
    have : Nat.beq t d = false := by
      cases hq : Nat.beq t d with
      | false => rfl
      | true => exact absurd (by rw [Nat.eq_of_beq_eq_true hq]) h
    rw [this]
theorem put_frm_eq {fr : Frm} {d : Option Tmp} {v : AV} {t : Nat} (h : d = some t) : fr.put d v t = v := by
  subst h
  simp [Frm.put]
theorem gslot_of {ops : Array Oper} {i : Nat} {o : Oper} (h : ops[i]? = some o) : gslot ops i = o.dst := by simp [gslot, h]
theorem gslot_op {ops : Array Oper} {i t : Nat} (h : gslot ops i = some t) : ∃ o, ops[i]? = some o ∧ o.dst = some t := by
  unfold gslot at h
  split at h
  · rename_i o ho; exact ⟨o, ho, h⟩
  · cases h

variable {S}

theorem slot_inj {hS : Static S.ops S.B} {i j t : Nat} (hi : gslot S.ops i = some t) (hj : gslot S.ops j = some t) : i = j := by
  obtain ⟨o, ho, hd⟩ := gslot_op hi
  by_cases e : i = j
  · exact e
  · exact absurd hd (hS.slots i j o t ho hj e).2

/-- What is ready has all before it done. -/
theorem bef_did {hS : Static S.ops S.B} {listed : Array Bool} (hc : ∀ i j, did listed i → bef S.B i j → did listed j) {i : Nat} (hr : i ∈ Region.ready .any S.ops listed) : ∀ j, bef S.B i j → did listed j := by
  obtain ⟨-, o, ho, ha⟩ := mem_ready.1 hr
  intro j hj
  obtain ⟨e, he, hb, h | h⟩ := hS.befA i o j ho hj
  · subst h; exact ha e he hb
  · exact hc _ _ (ha e he hb) h
end
end Go.Ex
/-! # Regions of open order: one operation, whenever it comes -/
namespace Go.Ex
open Go.RowKit

section
variable {S : Start} {I : Nat → World → Prop} {C : Nat → Prop} {fr f : Frm} {s sD : AS} {pend : List Pend} {wt : List Watch} {listed : Array Bool} {a : Act} {w : World} {ρ : Loc}

theorem DK.subs (h : DK S C fr s pend listed a w ρ sD f) : ∀ b x, s.get b = some x → sD.get b = some x := by
  intro b x hx
  rw [h.plus2 b fun p hp _ e => ?_]
  · exact hx
  · have h1 := (h.pendC p hp).2.2.2.2
    rw [e, hx] at h1
    cases h1
theorem absorb_sub (h : DK S C fr s pend listed a w ρ sD f) {m : Nat} (hm : ∀ p ∈ pend, hasBit m p.i = true → did listed p.i) : ∀ b x, (absorb m pend s).get b = some x → sD.get b = some x := by
  intro b x hx
  obtain ⟨h1, h2⟩ := absorb_get m pend s h.pendId
  by_cases hb : ∃ p ∈ pend, hasBit m p.i = true ∧ p.id = b
  · obtain ⟨p, hp, hpm, rfl⟩ := hb
    rw [h1 p hp hpm] at hx
    rw [h.plus1 p hp (hm p hp hpm)]
    exact hx
  · rw [h2 b fun p hp hpm e => hb ⟨p, hp, hpm, e⟩] at hx
    exact h.subs b x hx
theorem wrL_of {ops : Array Oper} {i d : Nat} {o : Oper} (h : ops[i]? = some o) (hd : o.dst = some d) : wrL ops.toList d := ⟨o, by simpa using Array.mem_of_getElem? h, hd⟩
theorem Step.sub {ρ0 : Loc} {s0 t t' : AS} {wa : World} (hs : Step ρ0 s0 wa ρ t w) (hn : t'.n = t.n) (h : ∀ b x, t'.get b = some x → t.get b = some x) : Step ρ0 s0 wa ρ t' w :=
  ⟨hs.same, hs.keep, fun c ⟨b, x, k, h1, h2⟩ => hs.new c ⟨b, x, k, h b x h1, h2⟩, hs.size, hn ▸ hs.n, fun b hb hd => by
    cases hq : t'.get b with
    | none => rfl
    | some x => have := h b x hq; rw [hs.dead b hb hd] at this; cases this⟩

/-- An effect, all before it done. -/
theorem eff_step (hS : Static S.ops S.B) (hX : SoundX S.E.P S.E.X) (hG : SoundG S.E.P I S.E.Γ) (hI : I S.base S.w0) (hw : ∀ j, wrL S.ops.toList j → j < S.a0.tmps.size) {W : List Nat} {Q : Exit → Act → World → Prop}
    (hl : Leave S.E.P S.base S.w0 S.ρ0 S.s0 S.wa S.a0 (wrL S.ops.toList) W S.res Q)
    (h : DK S C fr s pend listed a w ρ sD f) (hc : CInv S C fr s pend wt) {e : Nat} {o : Oper} {kn : AV → AS → Res} (ho : S.ops[e]? = some o) (hn : ¬ C e) (hB : ∀ j, bef S.B e j → did listed j)
    (hop : opK S.ops fr (absorb (S.B.getD e 0) pend s) o (aop S.E.P S.E.X S.E.Γ fr (absorb (S.B.getD e 0) pend s) o) kn (fun v s' => some (.pan v, [], s')) = some S.res)
    {K : Act → World → Prop} (next : ∀ v s' a' w', kn v s' = some S.res → DInv S (fun i => C i ∨ i = e) (fr.put o.dst v) s' (restP (S.B.getD e 0) pend) (listed.setIfInBounds e true) a' w' → K a' w') :
    if Region.wanted o (yielded S.ops a.tmps) = true then o.wp S.E.P a w K Q else K (a.put o.dst undef) w := by
  have hes : e < S.ops.size := (Array.getElem?_eq_some_iff.1 ho).1
  have hds : ∀ j, did (listed.setIfInBounds e true) j ↔ did listed j ∨ j = e := fun j => did_set (by rw [h.size]; exact hes)
  have hend : ¬ did listed e := fun hd => hn (h.sub e hd)
  have hm : ∀ p ∈ pend, hasBit (S.B.getD e 0) p.i = true → did listed p.i := fun p _ hp => hB p.i hp
  have hsub := absorb_sub h hm
  have hna : (absorb (S.B.getD e 0) pend s).n = sD.n := (absorb_n _ _ _).trans h.n.symm
  have hra := h.rel.sub hna hsub
  have hread : ∀ t, hasBit (rdOp S.ops o) t = true → fr t = f t := by
    intro t ht
    refine (h.fr2 t fun j hj hjt => ?_).symm
    have hne : e ≠ j := fun e' => hn (e' ▸ hj)
    rcases (hS.slots e j o t ho hjt hne).1 with h1 | h1 | h1
    · rw [h1] at ht; cases ht
    · exact hB j h1
    · exact absurd (hc.closed j e hj h1) hn
  obtain ⟨hc1, hc2⟩ := reads_congr (E := S.E) hread
  have hop' : opK S.ops f (absorb (S.B.getD e 0) pend s) o (aop S.E.P S.E.X S.E.Γ f (absorb (S.B.getD e 0) pend s) o) kn (fun v s' => some (.pan v, [], s')) = some S.res := by
    rw [← hop, hc1]
    unfold opK
    rw [hc2]
  have stepA : Step S.ρ0 S.s0 S.wa ρ (absorb (S.B.getD e 0) pend s) w := h.step.sub hna hsub
  obtain ⟨ag1, ag2⟩ := absorb_get (S.B.getD e 0) pend s h.pendId
  refine op_sound (K := K) (Q := Q) hX hG hI hra h.rfr hop' (fun ρ' s' w' x v hr' hs' hv hk => ?_) (fun ρ' s' w' x v hr' hs' hv hk => ?_)
  · -- what waits
    have hrest : ∀ p ∈ restP (S.B.getD e 0) pend, p ∈ pend ∧ hasBit (S.B.getD e 0) p.i = false := fun p hp => (restP_mem _ _ p).1 hp
    have hdead : ∀ p ∈ restP (S.B.getD e 0) pend, s'.get p.id = none ∧ (absorb (S.B.getD e 0) pend s).get p.id = none := by
      intro p hp
      obtain ⟨hp1, hp2⟩ := hrest p hp
      have h1 : (absorb (S.B.getD e 0) pend s).get p.id = none := by
        rw [ag2 p.id fun q hq hqm e' => ?_]
        · exact (h.pendC p hp1).2.2.2.2
        · have := pw_inj (g := fun p => p.id) h.pendId q hq p hp1 e'
          subst this
          rw [hp2] at hqm
          cases hqm
      exact ⟨hs'.dead p.id (by rw [hna, h.n]; exact (h.pendC p hp1).2.2.2.1) h1, h1⟩
    have hkn : s.n ≤ s'.n := by have := hs'.n; rw [hna, h.n] at this; exact this
    -- the whole
    have hex : ∃ sD' : AS, sD'.n = s'.n ∧ (∀ p ∈ restP (S.B.getD e 0) pend, did listed p.i → sD'.get p.id = p.blk) ∧ (∀ b, (∀ p ∈ restP (S.B.getD e 0) pend, did listed p.i → p.id ≠ b) → sD'.get b = s'.get b) := by
      have hfl : ∀ p, p ∈ (restP (S.B.getD e 0) pend).filter (fun p => listed.getD p.i false) ↔ p ∈ restP (S.B.getD e 0) pend ∧ did listed p.i := fun p => List.mem_filter
      obtain ⟨f1, f2⟩ := flush_get ((restP (S.B.getD e 0) pend).filter fun p => listed.getD p.i false) s' ((h.pendId.sublist (restP_sub _ _)).sublist List.filter_sublist)
      exact ⟨_, flush_n _ _, fun p hp hd => f1 p ((hfl p).2 ⟨hp, hd⟩), fun b hb => f2 b fun p hp => hb p ((hfl p).1 hp).1 ((hfl p).1 hp).2⟩
    obtain ⟨sD', e1, e2, e3⟩ := hex
    have e4 : ∀ b, (∃ p ∈ restP (S.B.getD e 0) pend, did listed p.i ∧ p.id = b) ∨ sD'.get b = s'.get b := by
      intro b
      by_cases hb : ∃ p ∈ restP (S.B.getD e 0) pend, did listed p.i ∧ p.id = b
      · exact .inl hb
      · exact .inr (e3 b fun p hp hd e' => hb ⟨p, hp, hd, e'⟩)
    obtain ⟨r1, r2⟩ := h.rel.frame hna hsub hr' hs' e1 (fun b y hy => by
      rcases e4 b with ⟨p, hp, hd, rfl⟩ | h1
      · rw [(hdead p hp).1] at hy; cases hy
      · rw [h1]; exact hy) (fun b y hy => by
      rcases e4 b with ⟨p, hp, hd, rfl⟩ | h1
      · rw [e2 p hp hd] at hy
        exact .inr ⟨by rw [h.plus1 p (hrest p hp).1 hd]; exact hy, (hdead p hp).2⟩
      · rw [h1] at hy; exact .inl hy)
    refine next x s' _ w' hk ⟨ρ', sD', f.put o.dst x, ?_⟩
    have hext := r2.ext h.rel
    exact {
      size := by rw [Array.size_setIfInBounds]; exact h.size
      sub := fun i hi => ((hds i).1 hi).imp (h.sub i) id
      effs := fun i oi hi hoi hef => (hds i).2 (hi.imp (fun hi => h.effs i oi hi hoi hef) id)
      closed := fun i j hi hij => by
        refine (hds j).2 (.inl ?_)
        rcases (hds i).1 hi with h1 | rfl
        · exact h.closed i j h1 hij
        · exact hB j hij
      n := e1
      plus1 := fun p hp hd => by
        rcases (hds p.i).1 hd with h1 | h1
        · exact e2 p hp h1
        · exact absurd (h1 ▸ (h.pendC p (hrest p hp).1).1) hn
      plus2 := fun b hb => e3 b fun p hp hd => hb p hp ((hds p.i).2 (.inl hd))
      rel := r1
      step := h.step.trans r2
      free := fun p hp hd => by
        have hp1 := (hrest p hp).1
        rw [hs'.same p.id (by rw [hna, h.n]; exact (h.pendC p hp1).2.2.2.1)]
        exact h.free p hp1 fun h1 => hd ((hds p.i).2 (.inl h1))
      pendC := fun p hp => by
        obtain ⟨h1, h2, h3, h4, h5⟩ := h.pendC p (hrest p hp).1
        exact ⟨.inl h1, h2, h3, Nat.lt_of_lt_of_le h4 hkn, (hdead p hp).1⟩
      pendId := h.pendId.sublist (restP_sub _ _)
      pendI := h.pendI.sublist (restP_sub _ _)
      rfr := (h.rfr.mono hext).put hv fun d hd => by rw [h.sz]; exact hw d (wrL_of ho hd)
      fr1 := fun t ⟨j, hj, hjd, hjt⟩ => by
        have hje : j ≠ e := fun e' => hjd ((hds j).2 (.inr e'))
        have hCj : C j := hj.resolve_right hje
        have hne : o.dst ≠ some t := (hS.slots e j o t ho hjt (Ne.symm hje)).2
        rw [put_frm_ne hne]
        exact h.fr1 t ⟨j, hCj, fun h1 => hjd ((hds j).2 (.inl h1)), hjt⟩
      fr2 := fun t ht => by
        by_cases hot : o.dst = some t
        · rw [put_frm_eq hot, put_frm_eq hot]
        · rw [put_frm_ne hot, put_frm_ne hot]
          refine h.fr2 t fun j hj hjt => ?_
          rcases (hds j).1 (ht j (.inl hj) hjt) with h1 | rfl
          · exact h1
          · exact absurd hj hn
      sz := (put_size _ _ _).trans h.sz
      dfr := (put_defers _ _ _).trans h.dfr
      other := fun i hi => by
        rw [put_other a o.dst v i fun hd => hi (wrL_of ho hd)]
        exact h.other i hi }
  · simp only [Option.some.injEq] at hk
    exact hl.pan x [] v ρ' s' w' a ⟨hr', stepA.trans hs', h.sz, h.dfr, h.other⟩ hv hk.symm

/-- Operations that have no effect yield a value. -/
theorem pure_of {E : Env} {o : Oper} (h : okOf o = .q ∨ okOf o = .mem) (f : Frm) (s : AS) : ∃ x, aop E.P E.X E.Γ f s o = .pure x := by
  cases ho : o.op <;> simp only [okOf, ho, reduceCtorEq, or_self, or_false, false_or] at h <;> simp only [aop, ho]
  case call c =>
    cases hc : c.callee with
    | value g => rw [hc] at h; rcases h with h | h <;> cases h
    | invoke r m => exact ⟨_, rfl⟩
    | builtin b =>
      rw [hc] at h
      simp only at h ⊢
      generalize c.args.toList = l
      generalize c.argTypes.toList = T
      rcases l with _ | ⟨y, _ | ⟨z, _ | ⟨u, l⟩⟩⟩ <;> rcases T with _ | ⟨t1, _ | ⟨t2, T⟩⟩ <;> cases b <;> first
        | (exfalso; simp only [reduceCtorEq, or_self] at h; done)
        | exact ⟨_, rfl⟩
        | (dsimp only; split <;> exact ⟨_, rfl⟩)
  all_goals (repeat' split) <;> exact ⟨_, rfl⟩

/-- An operation without effect, done later than in the plan. -/
theorem miss_step (hS : Static S.ops S.B) (hX : SoundX S.E.P S.E.X) (hG : SoundG S.E.P I S.E.Γ) (hI : I S.base S.w0) (hw : ∀ j, wrL S.ops.toList j → j < S.a0.tmps.size) {Q : Exit → Act → World → Prop}
    (h : DK S C fr s pend listed a w ρ sD f) (hc : CInv S C fr s pend wt) {i : Nat} {o : Oper} (ho : S.ops[i]? = some o) (hC : C i) (hnd : ¬ did listed i) (hB : ∀ j, bef S.B i j → did listed j)
    {K : Act → World → Prop} (next : ∀ a' w', DInv S C fr s pend (listed.setIfInBounds i true) a' w' → K a' w') :
    if Region.wanted o (yielded S.ops a.tmps) = true then o.wp S.E.P a w K Q else K (a.put o.dst undef) w := by
  have his : i < S.ops.size := (Array.getElem?_eq_some_iff.1 ho).1
  have hds : ∀ j, did (listed.setIfInBounds i true) j ↔ did listed j ∨ j = i := fun j => did_set (by rw [h.size]; exact his)
  have hef : isEff (okOf o) = false := by
    cases hq : isEff (okOf o) with
    | false => rfl
    | true => exact absurd (h.effs i o hC ho hq) hnd
  obtain ⟨f0, v, hrec⟩ := hc.recs i o hC ho hef
  have hno : S.noEff C i := fun e oe he hoe heff hb => hnd (h.closed e i (h.effs e oe he hoe heff) hb)
  have hread : ∀ t, hasBit (rdOp S.ops o) t = true → f0 t = f t := by
    intro t ht
    rcases hrec.reads t ht with ⟨⟨j, hj, hjt⟩, h1⟩ | ⟨h0, h1⟩
    · rw [h1]
      refine (h.fr2 t fun j' hj' hjt' => ?_).symm
      rw [slot_inj (hS := hS) hjt' hjt]
      exact hB j hj
    · rw [h1]
      by_cases hex : ∃ j, C j ∧ ¬ did listed j ∧ gslot S.ops j = some t
      · exact (h.fr1 t hex).symm
      · rw [h.fr2 t fun j hj hjt => Classical.byContradiction fun hd => hex ⟨j, hj, hd, hjt⟩]
        refine (hc.frame t fun j hj hjt => ?_).symm
        have hd : did listed j := Classical.byContradiction fun hd => hex ⟨j, hj, hd, hjt⟩
        have hne : i ≠ j := fun e => hnd (e ▸ hd)
        rcases (hS.slots i j o t ho hjt hne).1 with h2 | h2 | h2
        · rw [h2] at ht; cases ht
        · exact h0 j h2 hjt
        · exact hnd (h.closed j i hd h2)
  obtain ⟨hc1, hc2⟩ := reads_congr (E := S.E) hread
  have pureCase : okOf o = .q ∨ okOf o = .mem → gOf S.ops f0 o (pureOf (aop S.E.P S.E.X S.E.Γ f0 s o)) = some v →
      if Region.wanted o (yielded S.ops a.tmps) = true then o.wp S.E.P a w K Q else K (a.put o.dst undef) w := by
    intro hk hg
    obtain ⟨x, hx⟩ := pure_of (E := S.E) hk f s
    have hg' : gOf S.ops f o x = some v := by
      rw [hc1, hx] at hg
      unfold gOf at hg ⊢
      rw [hc2] at hg
      exact hg
    have hop : opK S.ops f s o (aop S.E.P S.E.X S.E.Γ f s o) (fun y s1 => some (.normal, [y], s1)) (fun _ _ => none) = some (.normal, [v], s) := by
      rw [hx]
      unfold opK
      unfold gOf at hg'
      split at hg'
      · cases hg'
      · simp only [hg', bO]
      · simp only [hg', bO]
    refine op_sound (K := K) (Q := Q) hX hG hI (h.rel.sub h.n.symm h.subs) h.rfr hop (fun ρ' s' w' y u hr' hs' hv hk' => ?_) (fun ρ' s' w' y u hr' hs' hv hk' => by cases hk')
    simp only [Option.some.injEq, Prod.mk.injEq, List.cons.injEq, and_true, true_and] at hk'
    obtain ⟨rfl, rfl⟩ := hk'
    obtain ⟨r1, r2⟩ := h.rel.frame (t' := sD) h.n.symm h.subs hr' hs' h.n h.subs (fun b z hz => by
      cases hq : s'.get b with
      | none => exact .inr ⟨hz, rfl⟩
      | some z' => rw [h.subs b z' hq] at hz; cases hz; exact .inl rfl)
    have hpi : ∀ p ∈ pend, p.i ≠ i := fun p hp e => by
      obtain ⟨-, ⟨o', ho', hl⟩, -⟩ := h.pendC p hp
      rw [e, ho] at ho'
      cases ho'
      rcases hk with hk | hk <;> rw [hk] at hl <;> cases hl
    refine next _ w' ⟨ρ', sD, f.put o.dst y, ?_⟩
    have hext := r2.ext h.rel
    exact {
      size := by rw [Array.size_setIfInBounds]; exact h.size
      sub := fun j hj => ((hds j).1 hj).elim (h.sub j) fun e => e ▸ hC
      effs := fun j oj hj hoj he => (hds j).2 (.inl (h.effs j oj hj hoj he))
      closed := fun j k hj hjk => by
        refine (hds k).2 (.inl ?_)
        rcases (hds j).1 hj with h1 | rfl
        · exact h.closed j k h1 hjk
        · exact hB k hjk
      n := h.n
      plus1 := fun p hp hd => h.plus1 p hp (((hds p.i).1 hd).resolve_right (hpi p hp))
      plus2 := fun b hb => h.plus2 b fun p hp hd => hb p hp ((hds p.i).2 (.inl hd))
      rel := r1
      step := h.step.trans r2
      free := fun p hp hd => by
        rw [hs'.same p.id (h.pendC p hp).2.2.2.1]
        exact h.free p hp fun h1 => hd ((hds p.i).2 (.inl h1))
      pendC := h.pendC
      pendId := h.pendId
      pendI := h.pendI
      rfr := (h.rfr.mono hext).put hv fun d hd => by rw [h.sz]; exact hw d (wrL_of ho hd)
      fr1 := fun t ⟨j, hj, hjd, hjt⟩ => by
        have hje : j ≠ i := fun e' => hjd ((hds j).2 (.inr e'))
        rw [put_frm_ne (hS.slots i j o t ho hjt (Ne.symm hje)).2]
        exact h.fr1 t ⟨j, hj, fun h1 => hjd ((hds j).2 (.inl h1)), hjt⟩
      fr2 := fun t ht => by
        by_cases hot : o.dst = some t
        · rw [put_frm_eq hot, hrec.val t hot]
        · rw [put_frm_ne hot]
          refine h.fr2 t fun j hj hjt => ?_
          rcases (hds j).1 (ht j hj hjt) with h1 | rfl
          · exact h1
          · rw [gslot_of ho] at hjt; exact absurd hjt hot
      sz := (put_size _ _ _).trans h.sz
      dfr := (put_defers _ _ _).trans h.dfr
      other := fun j hj => by
        rw [put_other a o.dst u j fun hd => hj (wrL_of ho hd)]
        exact h.other j hj }
  cases hk : okOf o with
  | q => exact pureCase (.inl hk) (hrec.q hk)
  | mem => exact pureCase (.inr hk) ((hrec.mem hk).2 hno)
  | eff => rw [hk] at hef; cases hef
  | store => rw [hk] at hef; cases hef
  | lite =>
    obtain ⟨hg, p, hp, hpi, sc, s', hscn, hop, hblk⟩ := hrec.lite hk hno
    obtain ⟨hpC, -, hp0, hplt, hpget⟩ := h.pendC p hp
    rw [hc1] at hop
    obtain ⟨x, ob, u, l1, l2, l3, l4⟩ := lite_ok hk h.rfr hop w
    rw [hscn] at l2 l4
    rw [l2] at hblk
    have hwd : Region.wanted o (yielded S.ops a.tmps) = true := by simp [Region.wanted, hg]
    rw [if_pos hwd]
    unfold Oper.wp
    rw [l1]
    have hnp : ¬ did listed p.i := fun hd => hnd (hpi ▸ hd)
    have hgD : sD.get p.id = none := by
      rw [h.plus2 p.id fun q hq hqd e => ?_]
      · exact hpget
      · have := pw_inj (g := fun p => p.id) h.pendId q hq p hp e
        subst this
        exact hnp hqd
    obtain ⟨r1, r2, r3⟩ := h.rel.addAt (t := sD.put p.id (some x)) l3 (by rw [h.n]; exact hplt) hgD (h.free p hp hnp) rfl (fun b => AS.get_put _ _ _ _)
    have hpq : ∀ q ∈ pend, q.i = i → q = p := fun q hq e => pw_inj (g := fun p => p.i) h.pendI q hq p hp (e.trans hpi.symm)
    have hqid : ∀ q ∈ pend, q ≠ p → q.id ≠ p.id := fun q hq hne e => hne (pw_inj (g := fun p => p.id) h.pendId q hq p hp e)
    refine next _ _ ⟨ρ.add p.id (w.heap.size, 0), sD.put p.id (some x), f.put o.dst v, ?_⟩
    exact {
      size := by rw [Array.size_setIfInBounds]; exact h.size
      sub := fun j hj => ((hds j).1 hj).elim (h.sub j) fun e => e ▸ hC
      effs := fun j oj hj hoj he => (hds j).2 (.inl (h.effs j oj hj hoj he))
      closed := fun j k hj hjk => by
        refine (hds k).2 (.inl ?_)
        rcases (hds j).1 hj with h1 | rfl
        · exact h.closed j k h1 hjk
        · exact hB k hjk
      n := h.n
      plus1 := fun q hq hd => by
        rw [AS.get_put]
        by_cases e : q = p
        · rw [e, if_pos rfl, hblk]
        · rw [if_neg (hqid q hq e)]
          exact h.plus1 q hq (((hds q.i).1 hd).resolve_right fun e' => e (hpq q hq e'))
      plus2 := fun b hb => by
        rw [AS.get_put, if_neg (hb p hp ((hds p.i).2 (.inr hpi))).symm]
        exact h.plus2 b fun q hq hd => hb q hq ((hds q.i).2 (.inl hd))
      rel := r1
      step := r3 h.step hp0
      free := fun q hq hd => by
        have hne : q ≠ p := fun e => hd ((hds q.i).2 (.inr (by rw [e]; exact hpi)))
        simp only [Loc.add, if_neg (hqid q hq hne)]
        exact h.free q hq fun h1 => hd ((hds q.i).2 (.inl h1))
      pendC := h.pendC
      pendId := h.pendId
      pendI := h.pendI
      rfr := (h.rfr.mono r2).put (l4 _ (by simp [Loc.add])) fun d hd => by rw [h.sz]; exact hw d (wrL_of ho hd)
      fr1 := fun t ⟨j, hj, hjd, hjt⟩ => by
        have hje : j ≠ i := fun e' => hjd ((hds j).2 (.inr e'))
        rw [put_frm_ne (hS.slots i j o t ho hjt (Ne.symm hje)).2]
        exact h.fr1 t ⟨j, hj, fun h1 => hjd ((hds j).2 (.inl h1)), hjt⟩
      fr2 := fun t ht => by
        by_cases hot : o.dst = some t
        · rw [put_frm_eq hot, hrec.val t hot]
        · rw [put_frm_ne hot]
          refine h.fr2 t fun j hj hjt => ?_
          rcases (hds j).1 (ht j hj hjt) with h1 | rfl
          · exact h1
          · rw [gslot_of ho] at hjt; exact absurd hjt hot
      sz := (put_size _ _ _).trans h.sz
      dfr := (put_defers _ _ _).trans h.dfr
      other := fun j hj => by
        rw [put_other a o.dst u j fun hd => hj (wrL_of ho hd)]
        exact h.other j hj }
end
end Go.Ex
/-! # Regions of open order: all orders -/
namespace Go.Ex
open Go.RowKit

section
variable {S : Start} {I : Nat → World → Prop}

def left (n : Nat) (listed : Array Bool) : Nat := ((List.range n).filter fun i => !listed.getD i true).length

theorem left_set {n i : Nat} {listed : Array Bool} (hi : i < n) (hs : listed.size = n) (hu : listed.getD i true = false) : left n (listed.setIfInBounds i true) < left n listed := by
  unfold left
  have h1 : (List.range n).filter (fun j => !(listed.setIfInBounds i true).getD j true) = ((List.range n).filter fun j => !listed.getD j true).filter fun j => !(j == i) := by
    rw [List.filter_filter]
    refine List.filter_congr fun j _ => ?_
    by_cases e : i = j
    · subst e; simp [hs, hi]
    · rw [getD_set_ne true e]
      have : (j == i) = false := by simp [Ne.symm e]
      simp [this]
  rw [h1]
  refine List.length_filter_lt_length_iff_exists.2 ⟨i, List.mem_filter.2 ⟨List.mem_range.2 hi, by simp [hu]⟩, by simp⟩

/-- Each operation once, behind all that stands before it. -/
def Top (ops : Array Oper) (B : List Nat) : (Nat → Prop) → List Nat → Prop
  | _, [] => True
  | C, i :: r => i < ops.size ∧ ¬ C i ∧ (∀ j, bef B i j → C j) ∧ Top ops B (fun j => C j ∨ j = i) r

theorem undone {listed : Array Bool} {i : Nat} (hs : i < listed.size) (h : ¬ did listed i) : listed.getD i true = false := by
  unfold did at h
  rw [Array.getD_eq_getD_getElem?, Array.getElem?_eq_getElem hs] at h ⊢
  simpa using h

/-- Where some operation is not done, one is ready. -/
theorem some_ready (hS : Static S.ops S.B) {listed : Array Bool} (hs : listed.size = S.ops.size) : ∀ (plan : List Nat) (C : Nat → Prop), Top S.ops S.B C plan → (∀ i, C i → did listed i) → (∀ i, i < S.ops.size → C i ∨ i ∈ plan) →
    Region.ready .any S.ops listed = [] → ∀ i, i < S.ops.size → did listed i
  | [], C, _, hC, ha, _, i, hi => (ha i hi).elim (hC i) fun h => by cases h
  | j :: plan, C, ht, hC, ha, hr, i, hi => by
    obtain ⟨h1, h2, h3, h4⟩ := ht
    have hj : did listed j := by
      refine Classical.byContradiction fun hd => ?_
      obtain ⟨o, ho⟩ : ∃ o, S.ops[j]? = some o := ⟨_, Array.getElem?_eq_getElem h1⟩
      have : j ∈ Region.ready .any S.ops listed := mem_ready.2 ⟨undone (by rw [hs]; exact h1) hd, o, ho, fun e he hb => hC _ (h3 _ (hS.after j o ho e he hb))⟩
      rw [hr] at this
      cases this
    exact some_ready hS hs plan _ h4 (fun k hk => hk.elim (hC k) fun e => e ▸ hj) (fun k hk => by
      rcases ha k hk with h | h
      · exact .inl (.inl h)
      · rcases List.mem_cons.1 h with rfl | h
        · exact .inl (.inr rfl)
        · exact .inr h) hr i hi

theorem run_any (hS : Static S.ops S.B) (hX : SoundX S.E.P S.E.X) (hG : SoundG S.E.P I S.E.Γ) (hI : I S.base S.w0) (hw : ∀ j, wrL S.ops.toList j → j < S.a0.tmps.size) {W : List Nat} {Q : Exit → Act → World → Prop}
    (hl : Leave S.E.P S.base S.w0 S.ρ0 S.s0 S.wa S.a0 (wrL S.ops.toList) W S.res Q) {plan : List Nat} (hp : Top S.ops S.B (fun _ => False) plan) (hpa : ∀ i, i < S.ops.size → i ∈ plan)
    (hn : ∀ ρ' fr' s' w' a', After S.E.P S.base S.w0 S.ρ0 S.s0 S.wa S.a0 (wrL S.ops.toList) ρ' s' w' a' → FR ρ' fr' a'.tmps → S.k fr' s' = some S.res → Q .normal a' w') :
    ∀ (fuel n : Nat) (C : Nat → Prop) (fr : Frm) (s : AS) (pend : List Pend) (wt : List Watch) (listed : Array Bool) (a : Act) (w : World), Run S n C fr s pend wt → DInv S C fr s pend listed a w → left S.ops.size listed ≤ fuel →
      wpAny S.E.P .any S.ops Q fuel listed a w := by
  intro fuel
  induction fuel with
  | zero =>
    intro n
    induction n with
    | zero => intro C fr s pend wt listed a w hr; exact hr.elim
    | succ n ih =>
      intro C fr s pend wt listed a w hr hD hle
      obtain ⟨hc, hcase⟩ := hr
      have hD' := hD
      obtain ⟨ρ, sD, f, h⟩ := hD'
      have hnone : Region.ready .any S.ops listed = [] := by
        refine List.eq_nil_iff_forall_not_mem.2 fun i hi => ?_
        obtain ⟨hu, o, ho, -⟩ := mem_ready.1 hi
        have := left_set (Array.getElem?_eq_some_iff.1 ho).1 h.size hu
        omega
      have hall := some_ready hS h.size plan _ hp (fun _ h => h.elim) (fun i hi => .inr (hpa i hi)) hnone
      rcases hcase with ⟨hfin, sz, hz1, hz2, hz3⟩ | ⟨C', fr', s', pend', wt', hr', hDD⟩ | ⟨T, ⟨e, he⟩, -, hT⟩
      · exact ⟨hnone, run_end hn h hall hz1 hz2 hz3⟩
      · exact ih C' fr' s' pend' wt' listed a w hr' (hDD listed a w hD) hle
      · obtain ⟨o, kn, ho, hnC, -⟩ := hT e he
        exact absurd (h.sub e (hall e (Array.getElem?_eq_some_iff.1 ho).1)) hnC
  | succ fuel ihf =>
    intro n
    induction n with
    | zero => intro C fr s pend wt listed a w hr; exact hr.elim
    | succ n ih =>
      intro C fr s pend wt listed a w hr hD hle
      have hr0 := hr
      obtain ⟨hc, hcase⟩ := hr
      have hD' := hD
      obtain ⟨ρ, sD, f, h⟩ := hD'
      have miss : ∀ i o, S.ops[i]? = some o → C i → ¬ did listed i → (∀ j, bef S.B i j → did listed j) → left S.ops.size (listed.setIfInBounds i true) ≤ fuel → wpOp S.E.P S.ops Q i (wpAny S.E.P .any S.ops Q fuel (listed.setIfInBounds i true)) a w := by
        intro i o ho hC hnd hB hlf
        have := miss_step (Q := Q) (K := wpAny S.E.P .any S.ops Q fuel (listed.setIfInBounds i true)) hS hX hG hI hw h hc ho hC hnd hB fun a' w' hD' => ihf (n + 1) C fr s pend wt _ a' w' hr0 hD' hlf
        unfold wpOp
        simp only [ho]
        cases hwd : Region.wanted o (yielded S.ops a.tmps) with
        | true => rw [hwd, if_pos rfl] at this; rw [if_pos rfl]; exact .inl this
        | false => rw [hwd, if_neg (by simp)] at this; rw [if_neg (by simp)]; exact this
      have lft : ∀ i o, S.ops[i]? = some o → listed.getD i true = false → left S.ops.size (listed.setIfInBounds i true) ≤ fuel := by
        intro i o ho hu
        have := left_set (Array.getElem?_eq_some_iff.1 ho).1 h.size hu
        omega
      have ndid : ∀ i, listed.getD i true = false → ¬ did listed i := by
        intro i hu hd
        unfold did at hd
        rw [Array.getD_eq_getD_getElem?] at hu hd
        cases hq : listed[i]? with
        | none => rw [hq] at hu; cases hu
        | some b => rw [hq] at hu hd; simp at hu hd; rw [hu] at hd; cases hd
      rcases hcase with ⟨hfin, sz, hz1, hz2, hz3⟩ | ⟨C', fr', s', pend', wt', hr', hDD⟩ | ⟨T, ⟨e, he⟩, hwait, hT⟩
      · refine ⟨fun hnone => run_end hn h (some_ready hS h.size plan _ hp (fun _ h => h.elim) (fun i hi => .inr (hpa i hi)) hnone) hz1 hz2 hz3, fun i hi => ?_⟩
        obtain ⟨hu, o, ho, -⟩ := mem_ready.1 hi
        exact miss i o ho (hfin i (Array.getElem?_eq_some_iff.1 ho).1) (ndid i hu) (bef_did (hS := hS) h.closed hi) (lft i o ho hu)
      · exact ih C' fr' s' pend' wt' listed a w hr' (hDD listed a w hD) hle
      · refine ⟨fun hnone => ?_, fun i hi => ?_⟩
        · have hall := some_ready hS h.size plan _ hp (fun _ h => h.elim) (fun i hi => .inr (hpa i hi)) hnone
          obtain ⟨o, kn, ho, hnC, -⟩ := hT e he
          exact absurd (h.sub e (hall e (Array.getElem?_eq_some_iff.1 ho).1)) hnC
        · obtain ⟨hu, o, ho, -⟩ := mem_ready.1 hi
          have hB := bef_did (hS := hS) h.closed hi
          by_cases hC : C i
          · exact miss i o ho hC (ndid i hu) hB (lft i o ho hu)
          · obtain ⟨e', he', hor⟩ := hwait i (Array.getElem?_eq_some_iff.1 ho).1 hC
            obtain ⟨o', kn, ho', hnC, hef, hop, hrun⟩ := hT e' he'
            rcases hor with rfl | hb
            · rw [ho] at ho'
              cases ho'
              have := eff_step (K := wpAny S.E.P .any S.ops Q fuel (listed.setIfInBounds i true)) hS hX hG hI hw hl h hc ho hnC hB hop fun v s' a' w' hk hD' => ihf n _ _ _ _ _ _ a' w' (hrun v s' hk) hD' (lft i o ho hu)
              unfold wpOp
              simp only [ho]
              cases hwd : Region.wanted o (yielded S.ops a.tmps) with
              | true => rw [hwd, if_pos rfl] at this; rw [if_pos rfl]; exact .inl this
              | false => rw [hwd, if_neg (by simp)] at this; rw [if_neg (by simp)]; exact this
            · exact absurd (h.sub e' (hB e' hb)) hnC
  where
  run_end {S : Start} {C : Nat → Prop} {fr f : Frm} {s sD sz : AS} {pend : List Pend} {listed : Array Bool} {a : Act} {w : World} {ρ : Loc} {Q : Exit → Act → World → Prop}
    (hn : ∀ ρ' fr' s' w' a', After S.E.P S.base S.w0 S.ρ0 S.s0 S.wa S.a0 (wrL S.ops.toList) ρ' s' w' a' → FR ρ' fr' a'.tmps → S.k fr' s' = some S.res → Q .normal a' w')
    (h : DK S C fr s pend listed a w ρ sD f) (hall : ∀ i, i < S.ops.size → did listed i) (hz1 : sz.n = s.n) (hz2 : ∀ b, sz.get b = (flush pend s).get b) (hz3 : S.k fr sz = some S.res) : Q .normal a w := by
    have hd : ∀ p ∈ pend, did listed p.i := fun p hp => by
      obtain ⟨-, ⟨o, ho, -⟩, -⟩ := h.pendC p hp
      exact hall p.i (Array.getElem?_eq_some_iff.1 ho).1
    obtain ⟨f1, f2⟩ := flush_get pend s h.pendId
    have heq : ∀ b, sz.get b = sD.get b := fun b => by
      rw [hz2]
      by_cases hb : ∃ p ∈ pend, p.id = b
      · obtain ⟨p, hp, rfl⟩ := hb
        rw [f1 p hp, h.plus1 p hp (hd p hp)]
      · rw [f2 b fun p hp e => hb ⟨p, hp, e⟩, h.plus2 b fun p hp _ e => hb ⟨p, hp, e⟩]
    have hsn : sz.n = sD.n := hz1.trans h.n.symm
    refine hn ρ fr sz w a ⟨h.rel.congr hsn heq, h.step.congr hsn heq, h.sz, h.dfr, h.other⟩ (fun t => ?_) hz3
    rw [← h.fr2 t fun j _ hjt => by
      obtain ⟨o, ho, -⟩ := gslot_op hjt
      exact hall j (Array.getElem?_eq_some_iff.1 ho).1]
    exact h.rfr t
end
end Go.Ex
/-! # Regions of open order: the plan -/
namespace Go.Ex
open Go.RowKit

section
variable {ops : Array Oper} {B : List Nat}

theorem aft_bit (l : List Edge) (m j : Nat) : hasBit (l.foldl (fun m e => match Region.binds .any e with | true => m ||| (2 ^ e.on ||| B.getD e.on 0) | false => m) m) j = true ↔
    hasBit m j = true ∨ ∃ e ∈ l, Region.binds .any e = true ∧ (j = e.on ∨ hasBit (B.getD e.on 0) j = true) := by
  induction l generalizing m with
  | nil => simp
  | cons e l ih =>
    simp only [List.foldl_cons, ih, List.mem_cons, exists_eq_or_imp]
    cases hb : Region.binds .any e with
    | true =>
      simp only [hasBit_or, hasBit_pow, Bool.or_eq_true, decide_eq_true_eq, true_and]
      rw [or_assoc, @eq_comm _ e.on j]
    | false => simp
theorem all_range {n : Nat} {p : Nat → Bool} (h : (List.range n).all p = true) {i : Nat} (hi : i < n) : p i = true := List.all_eq_true.1 h i (List.mem_range.2 hi)

theorem static_of (hb : befOk ops B = true) (hs : slotsOk ops B = true) : Static ops B := by
  have key : ∀ i o, ops[i]? = some o → B.getD i 0 = aftB o B := by
    intro i o ho
    have := all_range hb (Array.getElem?_eq_some_iff.1 ho).1
    rw [ho] at this
    exact Nat.eq_of_beq_eq_true this
  refine ⟨fun i o ho e he hbi => ?_, fun i o j ho hj => ?_, fun i j o d ho hj hne => ?_⟩
  · unfold bef
    rw [key i o ho]
    exact (aft_bit _ 0 _).2 (.inr ⟨e, by simpa using he, hbi, .inl rfl⟩)
  · unfold bef at hj
    rw [key i o ho] at hj
    rcases (aft_bit _ 0 _).1 hj with h | ⟨e, he, h1, h2⟩
    · simp [hasBit_eq] at h
    · exact ⟨e, by simpa using he, h1, h2⟩
  · obtain ⟨p, hp, hd⟩ := gslot_op hj
    have := all_range (all_range hs (Array.getElem?_eq_some_iff.1 ho).1) (Array.getElem?_eq_some_iff.1 hp).1
    rw [ho, hp] at this
    simp only [hd, Bool.or_eq_true, Bool.and_eq_true, Bool.not_eq_true'] at this
    rcases this with h | ⟨h1, h2⟩
    · exact absurd (Nat.eq_of_beq_eq_true h) hne
    · refine ⟨?_, fun e => ?_⟩
      · rcases h1 with (h1 | h1) | h1
        · exact .inl h1
        · exact .inr (.inl h1)
        · exact .inr (.inr h1)
      · simp [wrOp, e, bit, hasBit_pow] at h2

theorem top_of {n : Nat} (hn : n = ops.size) : ∀ (r : List Nat) (done : Nat) (C : Nat → Prop), (∀ j, C j ↔ hasBit done j = true) → topOk n B r done = true → Top ops B C r
  | [], _, _, _, _ => trivial
  | i :: r, done, C, hC, h => by
    simp only [topOk, Bool.and_eq_true, Bool.not_eq_true'] at h
    obtain ⟨⟨⟨h1, h2⟩, h3⟩, h4⟩ := h
    have h3 := Nat.eq_of_beq_eq_true h3
    refine ⟨hn ▸ (by simpa using h1), fun hc => ?_, fun j hj => ?_, top_of hn r _ _ (fun j => ?_) h4⟩
    · rw [(hC i).1 hc] at h2; cases h2
    · rw [hC, ← h3, hasBit_or]
      unfold bef at hj
      rw [hj]; rfl
    · rw [hasBit_or, hasBit_pow, Bool.or_eq_true, decide_eq_true_eq, ← hC]
      exact or_congr Iff.rfl eq_comm
end

section
variable {S : Start} {C : Nat → Prop} {fr : Frm} {s s' : AS} {pend pend' : List Pend} {wt wt' : List Watch} {i : Nat} {o : Oper} {v : AV}

theorem frame_put (hS : Static S.ops S.B) (hc : CInv S C fr s pend wt) (ho : S.ops[i]? = some o) : ∀ t, (∀ j, (C j ∨ j = i) → gslot S.ops j ≠ some t) → fr.put o.dst v t = S.fr0 t := by
  intro t ht
  rw [put_frm_ne (by have := ht i (.inr rfl); rwa [gslot_of ho] at this)]
  exact hc.frame t fun j hj => ht j (.inl hj)
/-- An old record, one operation later. -/
theorem old_reads (hS : Static S.ops S.B) (hc : CInv S C fr s pend wt) (ho : S.ops[i]? = some o) (hnC : ¬ C i) {j : Nat} {oj : Oper} (hj : C j) (hoj : S.ops[j]? = some oj) {f : Frm} {u : AV}
    (hval : ∀ d, oj.dst = some d → fr d = u)
    (hr : ∀ t, hasBit (rdOp S.ops oj) t = true → ((∃ k, bef S.B j k ∧ gslot S.ops k = some t) ∧ f t = fr t) ∨ ((∀ k, bef S.B j k → gslot S.ops k ≠ some t) ∧ f t = S.fr0 t)) :
    (∀ d, oj.dst = some d → fr.put o.dst v d = u) ∧ (∀ t, hasBit (rdOp S.ops oj) t = true → ((∃ k, bef S.B j k ∧ gslot S.ops k = some t) ∧ f t = fr.put o.dst v t) ∨ ((∀ k, bef S.B j k → gslot S.ops k ≠ some t) ∧ f t = S.fr0 t)) := by
  refine ⟨fun d hd => ?_, fun t ht => ?_⟩
  · rw [put_frm_ne fun e => ?_]
    · exact hval d hd
    · have := slot_inj (hS := hS) (i := i) (j := j) (t := d) (by rw [gslot_of ho]; exact e) (by rw [gslot_of hoj]; exact hd)
      exact hnC (this ▸ hj)
  · rcases hr t ht with ⟨⟨k, hk, hkt⟩, h1⟩ | h1
    · refine .inl ⟨⟨k, hk, hkt⟩, ?_⟩
      rw [put_frm_ne fun e => ?_]
      · exact h1
      · have := slot_inj (hS := hS) (i := i) (j := k) (t := t) (by rw [gslot_of ho]; exact e) hkt
        exact hnC (this ▸ hc.closed j k hj hk)
    · exact .inr h1
theorem new_reads (hS : Static S.ops S.B) (hc : CInv S C fr s pend wt) (ho : S.ops[i]? = some o) (hnC : ¬ C i) (hB : ∀ j, bef S.B i j → C j) :
    ∀ t, hasBit (rdOp S.ops o) t = true → ((∃ k, bef S.B i k ∧ gslot S.ops k = some t) ∧ fr t = fr.put o.dst v t) ∨ ((∀ k, bef S.B i k → gslot S.ops k ≠ some t) ∧ fr t = S.fr0 t) := by
  intro t ht
  by_cases hex : ∃ k, bef S.B i k ∧ gslot S.ops k = some t
  · obtain ⟨k, hk, hkt⟩ := hex
    refine .inl ⟨⟨k, hk, hkt⟩, ?_⟩
    rw [put_frm_ne fun e => ?_]
    have := slot_inj (hS := hS) (i := i) (j := k) (t := t) (by rw [gslot_of ho]; exact e) hkt
    exact hnC (this ▸ hB k hk)
  · refine .inr ⟨fun k hk hkt => hex ⟨k, hk, hkt⟩, hc.frame t fun j hj hjt => ?_⟩
    have hne : i ≠ j := fun e => hnC (e ▸ hj)
    rcases (hS.slots i j o t ho hjt hne).1 with h | h | h
    · rw [h] at ht; cases ht
    · exact hex ⟨j, h, hjt⟩
    · exact hnC (hc.closed j i hj h)
theorem closed_put (hc : CInv S C fr s pend wt) (hB : ∀ j, bef S.B i j → C j) : ∀ j k, (C j ∨ j = i) → bef S.B j k → (C k ∨ k = i) := by
  rintro j k (h | rfl) hjk
  · exact .inl (hc.closed j k h hjk)
  · exact .inl (hB k hjk)

theorem CInv.grow (hS : Static S.ops S.B) (hc : CInv S C fr s pend wt) (ho : S.ops[i]? = some o) (hnC : ¬ C i) (hB : ∀ j, bef S.B i j → C j) (hne : isEff (okOf o) = false)
    (hq : ∀ f' o', okOf o' = .q ∨ okOf o' = .mem → aop S.E.P S.E.X S.E.Γ f' s' o' = aop S.E.P S.E.X S.E.Γ f' s o') (hwt : ∀ x ∈ wt, x ∈ wt') (hpd : ∀ p ∈ pend, p ∈ pend')
    (hnew1 : okOf o = .q ∨ okOf o = .mem → gOf S.ops fr o (pureOf (aop S.E.P S.E.X S.E.Γ fr s' o)) = some v)
    (hnew2 : okOf o = .mem → ∃ x ∈ wt', x.i = i ∧ x.o = o ∧ x.fr = fr ∧ x.v = v)
    (hnew3 : okOf o = .lite → o.guard = none ∧ ∃ p ∈ pend', p.i = i ∧ ∃ sc s'', sc.n = p.id ∧ aop S.E.P S.E.X S.E.Γ fr sc o = .st (some (v, s'')) ∧ s''.get p.id = p.blk) :
    CInv S (fun j => C j ∨ j = i) (fr.put o.dst v) s' pend' wt' := by
  have noEff : ∀ j, S.noEff (fun j => C j ∨ j = i) j → S.noEff C j := fun j h e oe he => h e oe (.inl he)
  refine ⟨fun j hj => ?_, closed_put hc hB, frame_put hS hc ho, fun j oj hj hoj hej => ?_⟩
  · rcases hj with h | rfl
    · exact hc.lt j h
    · exact (Array.getElem?_eq_some_iff.1 ho).1
  · by_cases hji : j = i
    · subst hji
      rw [ho] at hoj
      cases hoj
      exact ⟨fr, v, fun d hd => put_frm_eq hd, new_reads hS hc ho hnC hB, fun h => hnew1 (.inl h), fun h => ⟨hnew2 h, fun _ => hnew1 (.inr h)⟩, fun h _ => hnew3 h⟩
    · have hCj := hj.resolve_right hji
      obtain ⟨f, u, hr⟩ := hc.recs j oj hCj hoj hej
      obtain ⟨r1, r2⟩ := old_reads (v := v) hS hc ho hnC hCj hoj hr.val hr.reads
      refine ⟨f, u, r1, r2, fun h => by rw [hq f oj (.inl h)]; exact hr.q h, fun h => ?_, fun h hn => ?_⟩
      · obtain ⟨⟨x, hx, hx2⟩, h2⟩ := hr.mem h
        exact ⟨⟨x, hwt x hx, hx2⟩, fun hn => by rw [hq f oj (.inr h)]; exact h2 (noEff j hn)⟩
      · obtain ⟨h1, p, hp, h2⟩ := hr.lite h (noEff j hn)
        exact ⟨h1, p, hpd p hp, h2⟩

theorem CInv.eff (hS : Static S.ops S.B) (hc : CInv S C fr s pend wt) (ho : S.ops[i]? = some o) (hnC : ¬ C i) (hB : ∀ j, bef S.B i j → C j) (hef : isEff (okOf o) = true)
    (hwa : ∀ x ∈ wt, hasBit (S.B.getD i 0) x.i = false → gOf S.ops x.fr x.o (pureOf (aop S.E.P S.E.X S.E.Γ x.fr s' x.o)) = some x.v) :
    CInv S (fun j => C j ∨ j = i) (fr.put o.dst v) s' (restP (S.B.getD i 0) pend) wt := by
  have noEff : ∀ j, S.noEff (fun j => C j ∨ j = i) j → S.noEff C j ∧ hasBit (S.B.getD i 0) j = false := fun j h => ⟨fun e oe he => h e oe (.inl he), by
    have := h i o (.inr rfl) ho hef
    unfold bef at this
    simpa using this⟩
  refine ⟨fun j hj => ?_, closed_put hc hB, frame_put hS hc ho, fun j oj hj hoj hej => ?_⟩
  · rcases hj with h | rfl
    · exact hc.lt j h
    · exact (Array.getElem?_eq_some_iff.1 ho).1
  · by_cases hji : j = i
    · subst hji
      rw [ho] at hoj
      cases hoj
      rw [hef] at hej
      cases hej
    · have hCj := hj.resolve_right hji
      obtain ⟨f, u, hr⟩ := hc.recs j oj hCj hoj hej
      obtain ⟨r1, r2⟩ := old_reads (v := v) hS hc ho hnC hCj hoj hr.val hr.reads
      refine ⟨f, u, r1, r2, fun h => by rw [q_indep h s]; exact hr.q h, fun h => ?_, fun h hn => ?_⟩
      · obtain ⟨⟨x, hx, rfl, rfl, rfl, rfl⟩, h2⟩ := hr.mem h
        exact ⟨⟨x, hx, rfl, rfl, rfl, rfl⟩, fun hn => hwa x hx (noEff _ hn).2⟩
      · obtain ⟨h1, p, hp, h2, h3⟩ := hr.lite h (noEff j hn).1
        exact ⟨h1, p, (restP_mem _ _ p).2 ⟨hp, by rw [h2]; exact (noEff j hn).2⟩, h2, h3⟩

theorem DInv.grow (hS : Static S.ops S.B) (hc : CInv S C fr s pend wt) (ho : S.ops[i]? = some o) (hnC : ¬ C i) (hne : isEff (okOf o) = false) (v : AV) {listed : Array Bool} {a : Act} {w : World}
    (h : DInv S C fr s pend listed a w) : DInv S (fun j => C j ∨ j = i) (fr.put o.dst v) s pend listed a w := by
  obtain ⟨ρ, sD, f, h⟩ := h
  refine ⟨ρ, sD, f, ?_⟩
  exact { h with
    sub := fun j hj => .inl (h.sub j hj)
    effs := fun j oj hj hoj he => by
      rcases hj with hj | rfl
      · exact h.effs j oj hj hoj he
      · rw [ho] at hoj; cases hoj; rw [hne] at he; cases he
    pendC := fun p hp => by
      obtain ⟨h1, h2⟩ := h.pendC p hp
      exact ⟨.inl h1, h2⟩
    fr1 := fun t ⟨j, hj, hjd, hjt⟩ => by
      rcases hj with hj | rfl
      · exact h.fr1 t ⟨j, hj, hjd, hjt⟩
      · have hno : ∀ k, C k → gslot S.ops k ≠ some t := fun k hk hkt => hnC (slot_inj (hS := hS) hkt hjt ▸ hk)
        rw [h.fr2 t fun k hk hkt => absurd hkt (hno k hk)]
        exact hc.frame t hno
    fr2 := fun t ht => by
      have hot : o.dst ≠ some t := fun e => hnC (h.sub i (ht i (.inr rfl) (by rw [gslot_of ho]; exact e)))
      rw [put_frm_ne hot]
      exact h.fr2 t fun j hj hjt => ht j (.inl hj) hjt }

theorem DInv.lite {blk : Option Blk} (ho : S.ops[i]? = some o) (hk : okOf o = .lite) (hC : C i) (hpi : ∀ p ∈ pend, p.i ≠ i) {listed : Array Bool} {a : Act} {w : World} (hnd : ¬ did listed i) (hn0 : S.s0.n ≤ s.n)
    (h : DInv S C fr s pend listed a w) : DInv S C fr s.reserve ({ i, id := s.n, blk } :: pend) listed a w := by
  obtain ⟨ρ, sD, f, h⟩ := h
  refine ⟨ρ, sD.reserve, f, ?_⟩
  have hlt : ∀ p ∈ pend, p.id < s.n := fun p hp => (h.pendC p hp).2.2.2.1
  exact { h with
    n := congrArg (· + 1) h.n
    plus1 := fun p hp hd => by
      rcases List.mem_cons.1 hp with rfl | hp
      · exact absurd hd hnd
      · exact h.plus1 p hp hd
    plus2 := fun b hb => h.plus2 b fun p hp => hb p (List.mem_cons_of_mem _ hp)
    rel := h.rel.reserve
    step := h.step.reserve
    free := fun p hp hd => by
      rcases List.mem_cons.1 hp with rfl | hp
      · exact (h.rel.fresh _ (by rw [h.n]; exact Nat.le_refl _)).2
      · exact h.free p hp hd
    pendC := fun p hp => by
      rcases List.mem_cons.1 hp with rfl | hp
      · refine ⟨hC, ⟨o, ho, hk⟩, hn0, Nat.lt_succ_self _, ?_⟩
        have := (h.rel.fresh s.n (by rw [h.n]; exact Nat.le_refl _)).1
        rw [h.plus2 s.n fun p hp _ e => Nat.lt_irrefl _ (e ▸ hlt p hp)] at this
        exact this
      · obtain ⟨h1, h2, h3, h4, h5⟩ := h.pendC p hp
        exact ⟨h1, h2, h3, Nat.lt_succ_of_lt h4, h5⟩
    pendId := List.pairwise_cons.2 ⟨fun p hp e => Nat.lt_irrefl _ (by have := hlt p hp; rw [← e] at this; exact this), h.pendId⟩
    pendI := List.pairwise_cons.2 ⟨fun p hp e => hpi p hp e.symm, h.pendI⟩ }

theorem mem_reserve {E : Env} {f : Frm} (h : okOf o = .q ∨ okOf o = .mem) : aop E.P E.X E.Γ f s.reserve o = aop E.P E.X E.Γ f s o := by
  rcases h with h | h
  · exact q_indep h _
  · cases ho : o.op <;> simp only [okOf, ho, reduceCtorEq] at h <;> simp only [aop, ho] <;> try rfl
    case call c => split at h <;> (try split at h) <;> cases h
end
end Go.Ex
/-! # Regions of open order are sound -/
namespace Go.Ex
open Go.RowKit

section
variable {S : Start}

theorem draw_run (hS : Static S.ops S.B) {tl : List Nat} {ke : Frm → AS → List Pend → List Watch → Res} {n : Nat} : ∀ (r : List Nat) (C : Nat → Prop) (fr : Frm) (s : AS) (pend : List Pend) (wt : List Watch),
    Top S.ops S.B C r → waitOk S.ops S.B tl r = true → (∀ i, i < S.ops.size → C i ∨ i ∈ r ∨ i ∈ tl) → CInv S C fr s pend wt → (∀ p ∈ pend, C p.i) → drawK S.E S.ops S.B r fr s pend wt ke = some S.res →
    (∀ C' fr' s' pend' wt', (∀ i, C' i ↔ C i ∨ i ∈ r) → CInv S C' fr' s' pend' wt' → ke fr' s' pend' wt' = some S.res → Run S n C' fr' s' pend' wt') → Run S (r.length + n) C fr s pend wt
  | [], C, fr, s, pend, wt, _, _, _, hc, _, h, hk => by
    rw [List.length_nil, Nat.zero_add]
    exact hk C fr s pend wt (fun i => by simp) hc h
  | i :: r, C, fr, s, pend, wt, ht, hwa, hall, hc, hpc, h, hk => by
    obtain ⟨hi, hnC, hB, ht'⟩ := ht
    obtain ⟨o, ho⟩ : ∃ o, S.ops[i]? = some o := ⟨_, Array.getElem?_eq_getElem hi⟩
    simp only [waitOk, ho, Bool.and_eq_true] at hwa
    obtain ⟨hw1, hw2⟩ := hwa
    have hall' : ∀ j, j < S.ops.size → (C j ∨ j = i) ∨ j ∈ r ∨ j ∈ tl := fun j hj => by
      rcases hall j hj with h | h | h
      · exact .inl (.inl h)
      · rcases List.mem_cons.1 h with rfl | h
        · exact .inl (.inr rfl)
        · exact .inr (.inl h)
      · exact .inr (.inr h)
    have hk' : ∀ C' fr' s' pend' wt', (∀ j, C' j ↔ (C j ∨ j = i) ∨ j ∈ r) → CInv S C' fr' s' pend' wt' → ke fr' s' pend' wt' = some S.res → Run S n C' fr' s' pend' wt' := fun C' fr' s' pend' wt' hC' => hk C' fr' s' pend' wt' fun j => by
      rw [hC', List.mem_cons, or_assoc]
    have hlen : (i :: r).length + n = (r.length + n) + 1 := by simp; omega
    rw [hlen]
    have ih := draw_run hS (tl := tl) (ke := ke) (n := n) r (fun j => C j ∨ j = i)
    simp only [drawK, ho] at h
    have effCase : isEff (okOf o) = true → opK S.ops fr (absorb (S.B.getD i 0) pend s) o (aop S.E.P S.E.X S.E.Γ fr (absorb (S.B.getD i 0) pend s) o)
          (fun v s' => watchK S.E S.ops (S.B.getD i 0) s' wt (drawK S.E S.ops S.B r (fr.put o.dst v) s' (restP (S.B.getD i 0) pend) wt ke))
          (fun v s' => some (.pan v, [], s')) = some S.res → Run S (r.length + n + 1) C fr s pend wt := by
      intro hef hop
      rw [hef] at hw1
      simp only [Bool.not_true, Bool.false_or, List.all_eq_true, List.mem_append] at hw1
      refine ⟨hc, .inr (.inr ⟨[i], ⟨i, List.mem_singleton.2 rfl⟩, fun j hj hnj => ⟨i, List.mem_singleton.2 rfl, ?_⟩, fun e he => ?_⟩)⟩
      · rcases hall' j hj with h | h
        · exact .inl (h.resolve_left hnj)
        · exact .inr (hw1 j h)
      · obtain rfl := List.mem_singleton.1 he
        refine ⟨o, _, ho, hnC, hef, hop, fun v s' hkn => ?_⟩
        obtain ⟨h1, h2⟩ := watchK_inv hkn
        exact ih _ s' _ wt ht' hw2 hall' (hc.eff hS ho hnC hB hef h2) (fun p hp => .inl (hpc p ((restP_mem _ _ p).1 hp).1)) h1 hk'
    cases hok : okOf o with
    | eff => rw [hok] at h; exact effCase (by rw [hok]; rfl) h
    | store => rw [hok] at h; exact effCase (by rw [hok]; rfl) h
    | q =>
      rw [hok] at h
      simp only at h
      split at h
      · rename_i x hx
        unfold bO at h
        split at h
        · cases h
        · rename_i v hv
          have hne : isEff (okOf o) = false := by rw [hok]; rfl
          refine ⟨hc, .inr (.inl ⟨_, fr.put o.dst v, s, pend, wt, ih _ s pend wt ht' hw2 hall' (hc.grow (wt' := wt) (pend' := pend) hS ho hnC hB hne (fun _ _ _ => rfl) (fun _ h => h) (fun _ h => h) (fun _ => by rw [hx]; exact hv) (fun h => by rw [hok] at h; cases h) (fun h => by rw [hok] at h; cases h)) (fun p hp => .inl (hpc p hp)) h hk', fun listed a w hD => DInv.grow hS hc ho hnC hne v hD⟩)⟩
      · cases h
    | mem =>
      rw [hok] at h
      simp only at h
      split at h
      · rename_i x hx
        unfold bO at h
        split at h
        · cases h
        · rename_i v hv
          have hne : isEff (okOf o) = false := by rw [hok]; rfl
          refine ⟨hc, .inr (.inl ⟨_, fr.put o.dst v, s, pend, _, ih _ s pend _ ht' hw2 hall' (hc.grow (wt' := { i, o, fr, v } :: wt) (pend' := pend) hS ho hnC hB hne (fun _ _ _ => rfl) (fun _ h => List.mem_cons_of_mem _ h) (fun _ h => h) (fun _ => by rw [hx]; exact hv) (fun _ => ⟨_, List.mem_cons_self .., rfl, rfl, rfl, rfl⟩) (fun h => by rw [hok] at h; cases h)) (fun p hp => .inl (hpc p hp)) h hk', fun listed a w hD => DInv.grow hS hc ho hnC hne v hD⟩)⟩
      · cases h
    | lite =>
      rw [hok] at h
      simp only at h
      split at h
      · rename_i x hg hx
        unfold bS at h
        split at h
        · cases h
        · rename_i v s'
          have hne : isEff (okOf o) = false := by rw [hok]; rfl
          have hpi : ∀ p ∈ pend, p.i ≠ i := fun p hp e => hnC (e ▸ hpc p hp)
          refine ⟨hc, .inr (.inl ⟨_, fr.put o.dst v, s.reserve, _, wt, ih _ _ _ wt ht' hw2 hall' (hc.grow (wt' := wt) (pend' := { i, id := s.n, blk := s'.get s.n } :: pend) hS ho hnC hB hne (fun _ _ h => mem_reserve h) (fun _ h => h) (fun _ h => List.mem_cons_of_mem _ h)
            (fun h => by rw [hok] at h; rcases h with h | h <;> cases h) (fun h => by rw [hok] at h; cases h) (fun _ => ⟨hg, _, List.mem_cons_self .., rfl, s, s', rfl, hx, rfl⟩)) (fun p hp => ?_) h hk', fun listed a w hD => ?_⟩)⟩
          · rcases List.mem_cons.1 hp with rfl | hp
            · exact .inr rfl
            · exact .inl (hpc p hp)
          · have hn0 : S.s0.n ≤ s.n := by obtain ⟨ρ, sD, f, h⟩ := hD; rw [← h.n]; exact h.step.n
            have hnd : ¬ did listed i := by obtain ⟨ρ, sD, f, h⟩ := hD; exact fun hd => hnC (h.sub i hd)
            exact DInv.lite ho hok (.inr rfl) hpi hnd hn0 (DInv.grow hS hc ho hnC hne v hD)
      · cases h

theorem st_shape {E : Env} {fr : Frm} {s s' : AS} {o : Oper} {v : AV} (hk : okOf o = .store) (h : aop E.P E.X E.Γ fr s o = .st (some (v, s'))) : ∃ b off x, stAddr fr o = .ptr b off ∧ s' = s.put b (some x) := by
  cases ho : o.op <;> simp only [okOf, ho, reduceCtorEq] at hk
  case store t p x =>
    simp only [aop, ho] at h
    split at h
    · rename_i n hn
      simp only [OpR.st.injEq] at h
      unfold stV at h
      split at h
      · cases h
      · split at h
        · split at h
          · cases h
          · rename_i s1 hs
            cases h
            unfold stN at hs
            split at hs
            · rename_i b off hp
              refine ⟨b, off, ?_⟩
              split at hs
              · split at hs
                · split at hs
                  · cases hs
                  · cases hs; exact ⟨_, by simp only [stAddr, ho]; exact hp, rfl⟩
                · cases hs
              · cases hs
            · cases hs
        · cases h
    · cases h
  case call c => split at hk <;> (try split at hk) <;> cases hk

theorem stK_inv {E : Env} {fr : Frm} {s : AS} {o : Oper} {k : AS → Res} {r : Ex × List AV × AS} (h : stK E fr s o k = some r) : ∃ v s', aop E.P E.X E.Γ fr s o = .st (some (v, s')) ∧ k s' = some r := by
  unfold stK at h
  split at h
  · rename_i x hx
    unfold bS at h
    split at h
    · cases h
    · exact ⟨_, _, hx, h⟩
  · cases h
theorem bT_inv {b : Bool} {k : Res} {r : Ex × List AV × AS} (h : bT b k = some r) : b = true ∧ k = some r := by
  unfold bT at h
  split at h
  · exact ⟨rfl, h⟩
  · cases h
theorem plain_inv {o : Oper} (h : plainStore o = true) : o.guard = none ∧ o.dst = none ∧ okOf o = .store := by
  unfold plainStore at h
  split at h
  · rename_i h1 h2 h3; exact ⟨h1, h2, h3⟩
  · cases h

open Classical in
theorem known_op {E : Env} {ops : Array Oper} {fr : Frm} {s s1 : AS} {o : Oper} {v1 : AV} {r : Ex × List AV × AS} {kp : AV → AS → Res} (hg : o.guard = none) (h : aop E.P E.X E.Γ fr s o = .st (some (v1, s1))) :
    opK ops fr s o (aop E.P E.X E.Γ fr s o) (fun v s' => if v = v1 ∧ s' = s1 then some r else none) kp = some r := by
  rw [h]
  unfold opK grd
  rw [hg]
  simp [bS]

theorem tail_run (hS : Static S.ops S.B) {C : Nat → Prop} {fr : Frm} {s : AS} {wt : List Watch} {i j : Nat} (hall : ∀ l, l < S.ops.size → C l ∨ l = i ∨ l = j) (hij : i ≠ j) (hci : ¬ C i) (hcj : ¬ C j)
    (hBi : ∀ l, bef S.B i l → C l) (hBj : ∀ l, bef S.B j l → C l) (hc : CInv S C fr s [] wt) (h : tailK S.E S.ops S.B i j fr s wt S.k = some S.res) : Run S 3 C fr s [] wt := by
  unfold tailK at h
  split at h
  · rename_i oi oj hoi hoj
    obtain ⟨hp, h⟩ := bT_inv h
    simp only [Bool.and_eq_true] at hp
    obtain ⟨gi, di, ki⟩ := plain_inv hp.1
    obtain ⟨gj, dj, kj⟩ := plain_inv hp.2
    obtain ⟨v1, s1, a1, h⟩ := stK_inv h
    obtain ⟨h, w1⟩ := watchK_inv h
    obtain ⟨v2, s12, a2, h⟩ := stK_inv h
    obtain ⟨h, w2⟩ := watchK_inv h
    obtain ⟨v3, s2, a3, h⟩ := stK_inv h
    obtain ⟨h, w3⟩ := watchK_inv h
    obtain ⟨v4, s21, a4, h⟩ := stK_inv h
    obtain ⟨h, w4⟩ := watchK_inv h
    obtain ⟨hsame, hfin⟩ := bT_inv h
    clear h
    simp only [Bool.and_eq_true] at hsame
    have ei : isEff (okOf oi) = true := by rw [ki]; rfl
    have ej : isEff (okOf oj) = true := by rw [kj]; rfl
    have pi : ∀ v, fr.put oi.dst v = fr := fun v => by rw [di]; rfl
    have pj : ∀ v, fr.put oj.dst v = fr := fun v => by rw [dj]; rfl
    -- the two ends are alike
    obtain ⟨b1, f1, x1, p1, rfl⟩ := st_shape ki a1
    obtain ⟨b2, f2, x2, p2, rfl⟩ := st_shape kj a2
    obtain ⟨b3, f3, x3, p3, rfl⟩ := st_shape kj a3
    obtain ⟨b4, f4, x4, p4, rfl⟩ := st_shape ki a4
    rw [p2] at p3; cases p3
    rw [p1] at p4; cases p4
    have heq : ∀ b, ((s.put b1 (some x1)).put b2 (some x2)).get b = ((s.put b2 (some x3)).put b1 (some x4)).get b := by
      intro b
      by_cases e1 : b = b1
      · rw [p1] at hsame; subst e1; exact blkBeq_eq hsame.1
      · by_cases e2 : b = b2
        · rw [p2] at hsame; subst e2; exact blkBeq_eq hsame.2
        · simp only [AS.get_put, if_neg e1, if_neg e2]
    have c1 := hc.eff (v := v1) hS hoi hci hBi ei w1
    have c2 := hc.eff (v := v3) hS hoj hcj hBj ej w3
    have c12 := c1.eff (v := v2) (o := oj) (i := j) hS hoj (fun h => h.elim hcj fun e => hij e.symm) (fun l hl => .inl (hBj l hl)) ej w2
    have c21 := c2.eff (v := v4) (o := oi) (i := i) hS hoi (fun h => h.elim hci hij) (fun l hl => .inl (hBi l hl)) ei w4
    rw [pi] at c1
    rw [pj] at c2
    rw [pi, pj] at c12
    rw [pj, pi] at c21
    refine ⟨hc, .inr (.inr ⟨[i, j], ⟨i, List.mem_cons_self ..⟩, fun l hl hnl => ?_, fun e he => ?_⟩)⟩
    · rcases hall l hl with h | rfl | rfl
      · exact absurd h hnl
      · exact ⟨l, by simp, .inl rfl⟩
      · exact ⟨l, by simp, .inl rfl⟩
    · simp only [List.mem_cons, List.not_mem_nil, or_false] at he
      rcases he with rfl | rfl
      · refine ⟨oi, _, hoi, hci, ei, known_op (s1 := s.put b1 (some x1)) (v1 := v1) gi a1, fun v s' hk => ?_⟩
        split at hk
        · rename_i hv
          obtain ⟨rfl, rfl⟩ := hv
          rw [pi]
          refine ⟨c1, .inr (.inr ⟨[j], ⟨j, List.mem_cons_self ..⟩, fun l hl hnl => ⟨j, List.mem_cons_self .., .inl ?_⟩, fun e' he' => ?_⟩)⟩
          · rcases hall l hl with h | rfl | rfl
            · exact absurd (.inl h) hnl
            · exact absurd (.inr rfl) hnl
            · rfl
          · obtain rfl := List.mem_singleton.1 he'
            refine ⟨oj, _, hoj, fun h => h.elim hcj fun e => hij e.symm, ej, known_op gj a2, fun v s' hk => ?_⟩
            split at hk
            · rename_i hv
              obtain ⟨rfl, rfl⟩ := hv
              rw [pj]
              exact ⟨c12, .inl ⟨fun l hl => by rcases hall l hl with h | rfl | rfl <;> simp [*], _, rfl, fun _ => rfl, hfin⟩⟩
            · cases hk
        · cases hk
      · refine ⟨oj, _, hoj, hcj, ej, known_op gj a3, fun v s' hk => ?_⟩
        split at hk
        · rename_i hv
          obtain ⟨rfl, rfl⟩ := hv
          rw [pj]
          refine ⟨c2, .inr (.inr ⟨[i], ⟨i, List.mem_cons_self ..⟩, fun l hl hnl => ⟨i, List.mem_cons_self .., .inl ?_⟩, fun e' he' => ?_⟩)⟩
          · rcases hall l hl with h | rfl | rfl
            · exact absurd (.inl h) hnl
            · rfl
            · exact absurd (.inr rfl) hnl
          · obtain rfl := List.mem_singleton.1 he'
            refine ⟨oi, _, hoi, fun h => h.elim hci hij, ei, known_op gi a4, fun v s' hk => ?_⟩
            split at hk
            · rename_i hv
              obtain ⟨rfl, rfl⟩ := hv
              rw [pi]
              exact ⟨c21, .inl ⟨fun l hl => by rcases hall l hl with h | rfl | rfl <;> simp [*], (s.put b1 (some x1)).put b2 (some x2), rfl, fun b => by simpa [restP, flush] using heq b, hfin⟩⟩
            · cases hk
        · cases hk
  · cases h

theorem top_append {ops : Array Oper} {B : List Nat} : ∀ (r r' : List Nat) (C : Nat → Prop), Top ops B C (r ++ r') → Top ops B C r ∧ Top ops B (fun j => C j ∨ j ∈ r) r'
  | [], r', C, h => ⟨trivial, by simpa using h⟩
  | i :: r, r', C, ⟨h1, h2, h3, h4⟩ => by
    obtain ⟨h5, h6⟩ := top_append r r' _ h4
    refine ⟨⟨h1, h2, h3, h5⟩, ?_⟩
    have : (fun j => C j ∨ j ∈ i :: r) = fun j => (C j ∨ j = i) ∨ j ∈ r := funext fun j => propext (by rw [List.mem_cons, or_assoc])
    rw [this]
    exact h6
end

theorem draw_sound {E : Env} {I : Nat → World → Prop} (hmix : E.P.follows .mixedOrders = true) (hX : SoundX E.P E.X) (hG : SoundG E.P I E.Γ) : DrawSound E I := by
  intro id ops base w0 ρ s w fr a k res W Q hI h hr hf hw hn hl
  unfold regK at h
  simp only at h
  split at h
  · cases h
  · rename_i hchk
    simp only [Bool.and_eq_true] at hchk
    obtain ⟨⟨⟨k1, k2⟩, k3⟩, k4⟩ := hchk
    let S : Start := ⟨E, ops, befs ops.toList [], base, w0, ρ, s, w, fr, a, res, k⟩
    have hS : Static S.ops S.B := static_of k1 k2
    have htop : Top S.ops S.B (fun _ => False) (planAt ops.toList ops.size 0) := top_of rfl _ 0 _ (fun j => by simp [hasBit_eq]) k3
    have hpa : ∀ i, i < S.ops.size → i ∈ planAt ops.toList ops.size 0 := by
      intro i hi
      have := all_range k4 hi
      obtain ⟨x, hx, hxi⟩ := List.any_eq_true.1 this
      rw [Nat.eq_of_beq_eq_true hxi]
      exact hx
    have hc0 : CInv S (fun _ => False) fr s [] [] := ⟨fun _ h => h.elim, fun _ _ h => h.elim, fun _ _ => rfl, fun _ _ h => h.elim⟩
    have hrun : ∃ n, Run S n (fun _ => False) fr s [] [] := by
      split at h
      · rename_i hwait
        refine ⟨_, draw_run (n := 1) (tl := []) hS _ _ fr s [] [] htop hwait (fun i hi => .inr (.inl (hpa i hi))) hc0 (fun _ h => by cases h) h fun C' fr' s' pend' wt' hC' hc' hk => ?_⟩
        exact ⟨hc', .inl ⟨fun i hi => (hC' i).2 (.inr (hpa i hi)), _, flush_n _ _, fun _ => rfl, hk⟩⟩
      · split at h
        · rename_i j i r hrev
          have hpl : planAt ops.toList ops.size 0 = r.reverse ++ [i, j] := by
            have := congrArg List.reverse hrev
            simpa using this
          split at h
          · rename_i hwait
            simp only [Bool.and_eq_true, Bool.not_eq_true'] at hwait
            obtain ⟨hwait, hnb⟩ := hwait
            rw [hpl] at htop hpa
            obtain ⟨t1, t2⟩ := top_append _ _ _ htop
            obtain ⟨ti, tci, tbi, tj, tcj, tbj, -⟩ := t2
            refine ⟨_, draw_run (n := 3) (tl := [i, j]) hS _ _ fr s [] [] t1 hwait (fun l hl => ?_) hc0 (fun _ h => by cases h) h fun C' fr' s' pend' wt' hC' hc' hk => ?_⟩
            · have := hpa l hl
              rw [List.mem_append] at this
              exact .inr this
            · have hCC : C' = fun l => False ∨ l ∈ r.reverse := funext fun l => propext (hC' l)
              split at hk
              · have hji : ¬ bef S.B j i := fun hb => by
                  have : hasBit ((befs ops.toList []).getD j 0) i = true := hb
                  rw [this] at hnb
                  cases hnb
                refine tail_run hS (fun l hl => ?_) (fun e => tcj (.inr e.symm)) (by rw [hCC]; exact tci) (by rw [hCC]; exact fun h => tcj (.inl h)) (by rw [hCC]; exact tbi) (fun l hl => ?_) hc' hk
                · have := hpa l hl
                  rw [List.mem_append] at this
                  rcases this with h | h
                  · exact .inl ((hC' l).2 (.inr h))
                  · simp only [List.mem_cons, List.not_mem_nil, or_false] at h
                    exact .inr h
                · rcases tbj l hl with h | rfl
                  · rw [hCC]; exact h
                  · exact absurd hl hji
              · cases hk
          · cases h
        · cases h
    obtain ⟨n, hrun⟩ := hrun
    refine wp_region_any hmix ?_
    have h0 : ∀ i, ¬ did (Array.replicate ops.size false) i := by
      intro i hi
      unfold did at hi
      rw [Array.getD_eq_getD_getElem?, Array.getElem?_replicate] at hi
      split at hi <;> simp at hi
    refine run_any (S := S) hS hX hG hI hw hl htop hpa hn _ n _ fr s [] [] _ a w.drew hrun ⟨ρ, s, fr, ?_⟩ (Nat.le_trans (List.length_filter_le _ _) (by simp; exact Nat.le_refl _))
    exact {
      size := by simp [S]
      sub := fun i hi => absurd hi (h0 i)
      effs := fun _ _ h => h.elim
      closed := fun i _ hi => absurd hi (h0 i)
      n := rfl
      plus1 := fun _ h => by cases h
      plus2 := fun _ _ => rfl
      rel := hr.drew
      step := Step.drew
      free := fun _ h => by cases h
      pendC := fun _ h => by cases h
      pendId := .nil
      pendI := .nil
      rfr := hf
      fr1 := fun _ ⟨_, h, _⟩ => h.elim
      fr2 := fun _ _ => rfl
      sz := rfl
      dfr := rfl
      other := fun _ _ => rfl }
end Go.Ex
