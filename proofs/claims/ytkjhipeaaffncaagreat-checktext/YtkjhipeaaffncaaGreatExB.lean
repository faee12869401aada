/-
  Part of the proof of: The call of CheckText (libevolutionlaw07) returns true at every input. This text: an executor of the loaded code over abstract values, and its soundness.
  No condition: every input.
-/
import Derived.Test.YtkjhipeaaffncaaGreatExA
import Derived.Laws.Entries
import Derived.Laws.Strings
import Derived.Laws.CopyRow
import Derived.Laws.BytesString
import Derived.Laws.StandIn
import Derived.IntWalk
set_option linter.unusedVariables false
set_option linter.unusedSimpArgs false
/-! # The plain operations -/
namespace Go.Ex
open Go.RowKit

theorem VR_cell (ρ : Loc) (v : Value) : VR ρ (ofCell v) v := by
  unfold ofCell
  split <;> constructor
theorem VR_const (ρ : Loc) (v : Value) : VR ρ (ofValue v) v := by
  unfold ofValue
  split
  · refine .agg ?_
    rename_i cs
    have : ∀ l : List Value, VRL ρ (l.map ofCell) l := fun l => by
      induction l with
      | nil => exact .nil
      | cons v l ih => exact .cons (VR_cell ρ v) ih
    exact this _
  · exact VR_cell ρ v

theorem VR.int_inv {ρ : Loc} {k : IntKind} {n : Int} {v : Value} (h : VR ρ (.int k n) v) : v = .int k n := by cases h; rfl
theorem VR.bool_inv {ρ : Loc} {b : Bool} {v : Value} (h : VR ρ (.bool b) v) : v = .bool b := by cases h; rfl
theorem VR.str_inv {ρ : Loc} {n : Nat} {v : Value} (h : VR ρ (.str n) v) : ∃ s : ByteArray, v = .string s ∧ n = enc s.data.toList := by
  generalize hn : AV.str n = q at h
  cases h <;> first | (cases hn; done) | skip
  rename_i s
  cases hn
  exact ⟨s, rfl, rfl⟩
theorem size_list (s : ByteArray) : s.data.toList.length = s.size := rfl

def FR (ρ : Loc) (fr : Frm) (tmps : Array Value) : Prop := ∀ i, VR ρ (fr i) (tmps.getD i undef)

section
variable {P : Program} {base : Nat} {w0 w : World} {ρ : Loc} {s : AS} {fr : Frm} {a : Act} {o : Oper}

theorem FR.ev (h : FR ρ fr a.tmps) (x : Operand) : VR ρ (Go.Ex.ev fr x) (a.eval x) := by
  cases x with
  | tmp t => exact h t
  | const v => exact VR_const ρ v
  | global g => exact .poison _
  | func f => exact .func .nil
theorem FR.evs (h : FR ρ fr a.tmps) (l : List Operand) : VRL ρ (l.map (Go.Ex.ev fr)) (l.map a.eval) := VRL.map_ev h.ev l

theorem run_info {t : TypeId} {i : TypeInfo} (h : P.info? t = some i) : (typeInfo t).run P w = .ok i w := by
  simp [typeInfo, h]
theorem run_size {t : TypeId} {n : Nat} (h : szOf P t = some n) : (sizeOf t).run P w = .ok n w := by
  unfold szOf at h
  split at h
  · rename_i i hi
    cases h
    simp [sizeOf, run_info hi]
  · cases h
theorem run_zero {t : TypeId} {z : AV} (h : zeroOf P t = some z) : ∃ v, (zeroValue t).run P w = .ok v w ∧ VR ρ z v := by
  unfold zeroOf at h
  split at h
  · rename_i i hi
    split at h
    · rename_i v hv
      cases h
      exact ⟨v, by simp [zeroValue, run_info hi, hv], VR_const ρ v⟩
    · cases h
  · cases h

theorem lk_agg {t : TypeId} {n : Nat} (h : lk P t = .agg n) : (isAgg t).run P w = .ok true w ∧ szOf P t = some n := by
  unfold lk at h
  split at h <;> first | (cases h; done) | skip
  · rename_i hu hi
    cases h
    exact ⟨by simp [isAgg, run_underlying hu], by simp [szOf, hi]⟩
  · rename_i hu hi
    cases h
    exact ⟨by simp [isAgg, run_underlying hu], by simp [szOf, hi]⟩
theorem lk_one {t : TypeId} (h : lk P t = .one) : (isAgg t).run P w = .ok false w := by
  unfold lk at h
  split at h <;> first | (cases h; done) | skip
  rename_i d i h1 h2 hu hi
  cases d with
  | struct fs => exact absurd rfl (h1 fs)
  | array n e => exact absurd rfl (h2 n e)
  | _ => simp [isAgg, run_underlying hu]

/-- A load. -/
theorem load_ok (hr : Rel P base w0 ρ s w) {t : TypeId} {p x : AV} {v : Value} (hp : VR ρ p v)
    (h : (match lk P t with | .agg n => ldA s p n | .one => ld1 s p | .bad => none) = some x) : ∃ u, (Instr.loadAt t v).run P w = .ok u w ∧ VR ρ x u := by
  split at h
  · rename_i n hk
    obtain ⟨h1, h2⟩ := lk_agg (w := w) hk
    unfold ldA at h
    split at h
    · cases h
    · rename_i cs hl
      cases h
      obtain ⟨c, o, vs, rfl, h3, h4, -, -⟩ := hr.loadN hp hl
      exact ⟨.agg vs, by simp [Instr.loadAt, Instr.sureAddr, loadVar, h1, run_size h2, h3], .agg h4⟩
  · rename_i hk
    have h1 := lk_one (w := w) hk
    unfold ld1 at h
    split at h
    · rename_i y r hl
      cases h
      obtain ⟨c, o, vs, rfl, h3, h4, -, h6⟩ := hr.loadN hp hl
      obtain ⟨u, hu, hxu⟩ := h4.get (i := 0) rfl
      have h7 := h6 0 u (by simpa using hu)
      simp only [Nat.add_zero] at h7
      exact ⟨u, by simp [Instr.loadAt, Instr.sureAddr, loadVar, h1, h7], hxu⟩
    · cases h
  · cases h

theorem fld_ok {t : TypeId} {f : Go.Field} {x y : AV} {v : Value} (hx : VR ρ x v)
    (h : (match lk P f.type with | .agg n => fldN x f.offset n | .one => fld1 x f.offset | .bad => none) = some y)
    {fs : Array Go.Field} {i : Nat} (hu : P.underlying t = some (.struct fs)) (hi : fs[i]? = some f) :
    ∃ u, (Instr.field t v i).run P w = .ok u w ∧ VR ρ y u := by
  split at h
  · rename_i n hk
    obtain ⟨h1, h2⟩ := lk_agg (w := w) hk
    unfold fldN at h
    split at h
    · rename_i cs
      cases hx with
      | agg hcs =>
        rename_i vs
        split at h
        · cases h
        · rename_i r ht
          cases h
          have h3 := (hcs.drop f.offset).take ht
          refine ⟨.agg (vs.extract f.offset (f.offset + n)), by simp [Instr.field, run_underlying hu, hi, part, h1, run_size h2, asAgg], .agg ?_⟩
          have : (vs.extract f.offset (f.offset + n)).toList = (vs.toList.drop f.offset).take n := by
            simp [Array.toList_extract, List.extract_eq_take_drop]
          rw [this]
          exact h3.1
    · cases h
  · rename_i hk
    have h1 := lk_one (w := w) hk
    unfold fld1 at h
    split at h
    · rename_i cs
      cases hx with
      | agg hcs =>
        rename_i vs
        split at h
        · rename_i z r hd
          cases h
          have h3 := hcs.drop f.offset
          rw [hd] at h3
          obtain ⟨u, hu', hyu⟩ := h3.get (i := 0) rfl
          rw [List.getElem?_drop] at hu'
          have h4 : vs[f.offset]? = some u := by simpa using hu'
          exact ⟨u, by simp [Instr.field, run_underlying hu, hi, part, h1, asAgg, h4], hyu⟩
        · cases h
    · cases h
  · cases h

theorem fldAddr_ok {t : TypeId} {f : Go.Field} {x y : AV} {v : Value} (hx : VR ρ x v) {n : Nat} (hs : szOf P f.type = some (n + 1)) (h : fldAddr x f.offset = some y)
    {fs : Array Go.Field} {i : Nat} (hu : P.underlying t = some (.struct fs)) (hi : fs[i]? = some f) : ∃ u, (Instr.fieldAt t v i).run P w = .ok u w ∧ VR ρ y u := by
  unfold fldAddr at h
  split at h
  · cases h
    cases hx with
    | ptr hc =>
      rename_i c k
      refine ⟨_, ?_, .ptr hc⟩
      simp [Instr.fieldAt, run_underlying hu, hi, Instr.sureAddr, fieldPlace, run_size hs, addr_add]
  · cases h

theorem idxAddr_ok {t e : TypeId} {n : Nat} {x i y : AV} {v u : Value} (hx : VR ρ x v) (hi : VR ρ i u) (hu : P.underlying t = some (.slice e)) (hs : szOf P e = some n)
    (h : idxAddr x i n = some y) : ∃ z, (Instr.indexAt t v u).run P w = .ok z w ∧ VR ρ y z := by
  unfold idxAddr at h
  simp only [natLt_eq] at h
  split at h
  · split at h
    · rename_i hb
      cases h
      simp only [Bool.and_eq_true, decide_eq_true_eq] at hb
      cases hi
      cases hx with
      | slice hc hl => exact ⟨_, by simp [Instr.indexAt, run_underlying hu, asIntOf, run_size hs, hb, addr_add], .ptr hc⟩
    · cases h
  · split at h
    · rename_i hb
      cases h
      simp only [Bool.and_eq_true, decide_eq_true_eq] at hb
      cases hi
      cases hx with
      | gslice hc hl => exact ⟨_, by simp [Instr.indexAt, run_underlying hu, asIntOf, run_size hs, hb, addr_add], .ptr hc⟩
    · cases h
  · split at h
    · rename_i hb
      cases h
      simp only [Bool.and_eq_true, decide_eq_true_eq] at hb
      cases hi
      cases hx with
      | part hc hl => exact ⟨_, by simp [Instr.indexAt, run_underlying hu, asIntOf, run_size hs, hb, addr_add], .ptr hc⟩
    · cases h
  · cases h

theorem idxStr_ok {t : TypeId} {x i y : AV} {v u : Value} (hx : VR ρ x v) (hi : VR ρ i u) (hu : P.underlying t = some .string)
    (h : idxStr x i = some y) : ∃ z, (Instr.index t v u).run P w = .ok z w ∧ VR ρ y z := by
  unfold idxStr at h
  simp only [natLt_eq] at h
  split at h
  · split at h
    · rename_i hb
      cases h
      simp only [Bool.and_eq_true, decide_eq_true_eq] at hb
      obtain rfl := hi.int_inv
      obtain ⟨s, rfl, rfl⟩ := hx.str_inv
      rename_i kk i bb
      rw [slen_enc, size_list] at hb
      have hlt : i.toNat < s.size := by omega
      have hg : s.data.toList[i.toNat]? = some s[i.toNat] := by
        rw [List.getElem?_eq_getElem (by rw [size_list]; exact hlt)]
        rfl
      refine ⟨.int .u8 s[i.toNat].toNat, ?_, ?_⟩
      · have h1 : s[i.toNat]? = some s[i.toNat] := by simp [hlt]
        simp [Instr.index, run_underlying hu, asIntOf, hb.1, h1]
      · rw [sbyte_enc _ _ _ hg]
        exact .int _ _
    · cases h
  · cases h

theorem xtr_ok {x y : AV} {i : Nat} {v : Value} (hx : VR ρ x v) (h : xtr x i = some y) : ∃ z, (Instr.extract v i).run P w = .ok z w ∧ VR ρ y z := by
  unfold xtr at h
  split at h
  · cases hx with
    | tup hcs =>
      split at h
      · rename_i z r hd
        cases h
        have h3 := hcs.drop i
        rw [hd] at h3
        obtain ⟨u, hu', hyu⟩ := h3.get (i := 0) rfl
        rw [List.getElem?_drop] at hu'
        exact ⟨u, by simp [Instr.extract]; rw [show _[i]? = some u by simpa using hu']; rfl, hyu⟩
      · cases h
  · cases h

theorem nilChk_ok {y : AV} (hf : FR ρ fr a.tmps) {z : Operand} (ho : o.op = .nilCheck z) (h : nilChk (ev fr z) = some y) : ∃ u, (execOp a.eval o).run P w = .ok (.value u) w ∧ VR ρ y u := by
  have hv := hf.ev z
  unfold nilChk at h
  split at h
  · rename_i b off he
    cases h
    rw [he] at hv
    generalize hz : a.eval z = v at hv
    cases hv with
    | ptr hc => exact ⟨_, by simp [execOp, ho, hz], .ptr hc⟩
  · rename_i f c he
    cases h
    rw [he] at hv
    generalize hz : a.eval z = v at hv
    cases hv with
    | func hc => exact ⟨_, by simp [execOp, ho, hz], .func hc⟩
  · cases h
end
end Go.Ex
/-! # Operations on two values; conversions; slices -/
namespace Go.Ex
open Go.RowKit

section
variable {P : Program} {base : Nat} {w0 w : World} {ρ : Loc} {s : AS}

theorem binI_ok {op : BinOp} {t : TypeId} {x y z : AV} {v u : Value} (p q : Operand) (hx : VR ρ x v) (hy : VR ρ y u) (h : binI op x y = some z) :
    ∃ r, (do eqGuard op t p q v u; binOp op t v u : Sem Value).run P w = .ok r w ∧ VR ρ z r := by
  rw [binI_eq] at h
  unfold binI0 at h
  split at h
  · rename_i k a k' b
    obtain rfl := hx.int_inv
    obtain rfl := hy.int_inv
    have hg : (eqGuard op t p q (.int k a) (.int k' b)).run P w = .ok () w := by
      unfold eqGuard
      cases op <;> simp
    rw [Sem.run_bind, hg, Result.andThen_ok]
    split at h
    · split at h
      · cases h
      · rename_i hb
        cases h
        simp only [decide_eq_false_iff_not] at hb
        exact ⟨_, by simp [binOp, Op.shift, hb], .int _ _⟩
    · split at h
      · cases h
      · rename_i hb
        cases h
        simp only [decide_eq_false_iff_not] at hb
        exact ⟨_, by simp [binOp, Op.shift, hb], .int _ _⟩
    · rename_i h1 h2
      split at h
      · cases h
      · rename_i hk
        simp only [decide_eq_true_eq] at hk
        subst hk
        split at h
        · cases h; exact ⟨_, by simp [binOp, Op.intArith], .int _ _⟩
        · cases h; exact ⟨_, by simp [binOp, Op.intArith], .int _ _⟩
        · cases h; exact ⟨_, by simp [binOp, Op.intArith], .int _ _⟩
        · split at h
          · cases h
          · rename_i hb
            cases h
            simp only [decide_eq_false_iff_not] at hb
            exact ⟨_, by simp [binOp, Op.intDiv, hb], .int _ _⟩
        · split at h
          · cases h
          · rename_i hb
            cases h
            simp only [decide_eq_false_iff_not] at hb
            exact ⟨_, by simp [binOp, Op.intDiv, hb], .int _ _⟩
        · cases h; exact ⟨_, by simp [binOp, Op.intCmp]; rfl, .bool _⟩
        · cases h; exact ⟨_, by simp [binOp, Op.intCmp]; rfl, .bool _⟩
        · cases h; exact ⟨_, by simp [binOp, Op.intCmp], .bool _⟩
        · cases h; exact ⟨_, by simp [binOp, Op.intCmp], .bool _⟩
        · cases h; exact ⟨_, by simp [binOp, Op.intCmp], .bool _⟩
        · cases h; exact ⟨_, by simp [binOp, Op.intCmp], .bool _⟩
        · cases h; exact ⟨_, by simp [binOp, Op.intBits], .int _ _⟩
        · cases h; exact ⟨_, by simp [binOp, Op.intBits], .int _ _⟩
        · cases h
  · cases h

theorem str_append (a b : ByteArray) : (a ++ b).data.toList = a.data.toList ++ b.data.toList := by
  simp [ByteArray.data_append]
theorem bytes_toList (s : ByteArray) : s.toList = s.data.toList := by
  exact ByteArray.toList_eq s
theorem binS_ok {op : BinOp} {t : TypeId} {x y z : AV} {v u : Value} (p q : Operand) (hx : VR ρ x v) (hy : VR ρ y u) (h : binS op x y = some z) :
    ∃ r, (do eqGuard op t p q v u; binOp op t v u : Sem Value).run P w = .ok r w ∧ VR ρ z r := by
  unfold binS at h
  split at h
  · obtain ⟨a, rfl, rfl⟩ := hx.str_inv
    obtain ⟨b, rfl, rfl⟩ := hy.str_inv
    have hg : (eqGuard op t p q (.string a) (.string b)).run P w = .ok () w := by
      unfold eqGuard
      cases op <;> simp
    rw [Sem.run_bind, hg, Result.andThen_ok]
    split at h
    · split at h
      · rename_i hl
        cases h
        have hl' := Nat.le_of_ble_eq_true hl
        rw [slen_enc, slen_enc, size_list, size_list] at hl'
        refine ⟨.string (a ++ b), ?_, ?_⟩
        · have h3 : (a.size : Int) + b.size ≤ 9223372036854775807 := by
            have : (2 : Nat) ^ 40 = 1099511627776 := by decide
            omega
          simpa [binOp, Op.stringOp] using h3
        · rw [scat_enc, ← str_append]
          exact .str _
      · cases h
    · cases h; exact ⟨_, by simp [binOp, Op.stringOp, bytes_toList, beq_enc], .bool _⟩
    · cases h; exact ⟨_, by simp [binOp, Op.stringOp, bytes_toList, beq_enc], .bool _⟩
    · cases h; exact ⟨_, by simp [binOp, Op.stringOp, bytes_toList, strless_enc], .bool _⟩
    · cases h; exact ⟨_, by simp [binOp, Op.stringOp, bytes_toList, strless_enc, beq_enc], .bool _⟩
    · cases h; exact ⟨_, by simp [binOp, Op.stringOp, bytes_toList, strless_enc, beq_enc], .bool _⟩
    · cases h; exact ⟨_, by simp [binOp, Op.stringOp, bytes_toList, strless_enc], .bool _⟩
    · cases h
  · cases h

theorem equalIn_bool (d : Nat) {t : TypeId} (hu : P.underlying t = some .bool) (a b : Bool) : (Op.equalIn (d + 1) t (.bool a) (.bool b)).run P w = .ok (a == b) w := by
  simp only [Op.equalIn, Sem.run_bind, run_underlying hu, Result.andThen_ok]
  simp
theorem equalIn_ptr (d : Nat) {t e : TypeId} (hu : P.underlying t = some (.pointer e)) {x y : AV} {v u : Value} {b : Bool} (hb : eqP x y = some b) (hx : VR ρ x v) (hy : VR ρ y u) : (Op.equalIn (d + 1) t v u).run P w = .ok b w := by
  unfold eqP at hb
  split at hb <;> first | (cases hb; done) | skip
  all_goals
    cases hb
    cases hx
    cases hy
    simp only [Op.equalIn, Sem.run_bind, run_underlying hu, Result.andThen_ok]
    simp
theorem equalIn_sl (d : Nat) {t e : TypeId} (hu : P.underlying t = some (.slice e)) {x y : AV} {v u : Value} {b : Bool} (hb : eqSl x y = some b) (hx : VR ρ x v) (hy : VR ρ y u) : (Op.equalIn (d + 1) t v u).run P w = .ok b w := by
  unfold eqSl at hb
  split at hb <;> first | (cases hb; done) | skip
  all_goals
    cases hb
    cases hx
    cases hy
    simp only [Op.equalIn, Sem.run_bind, run_underlying hu, Result.andThen_ok]
    simp

theorem eqB_ok {t : TypeId} {neg : Bool} {x y z : AV} {v u : Value} (p q : Operand) (hu : P.underlying t = some .bool) (hx : VR ρ x v) (hy : VR ρ y u) (h : eqV neg (eqB x y) = some z) {op : BinOp} (ho : isEq op = some neg) :
    ∃ r, (do eqGuard op t p q v u; binOp op t v u : Sem Value).run P w = .ok r w ∧ VR ρ z r := by
  unfold eqB at h
  split at h
  · rename_i a b
    obtain rfl := hx.bool_inv
    obtain rfl := hy.bool_inv
    have hg : (eqGuard op t p q (.bool a) (.bool b)).run P w = .ok () w := by
      unfold eqGuard
      cases op <;> simp
    rw [Sem.run_bind, hg, Result.andThen_ok]
    simp only [eqV, Option.some.injEq] at h
    subst h
    cases op <;> simp only [isEq, Option.some.injEq, reduceCtorEq] at ho <;> subst ho
    · have he : (Op.equal t (.bool a) (.bool b)).run P w = .ok (a == b) w := equalIn_bool 9999 hu a b
      have h2 : binOp .eql t (.bool a) (.bool b) = (do pure (.bool (← Op.equal t (.bool a) (.bool b))) : Sem Value) := rfl
      rw [h2, Sem.run_bind, he]
      exact ⟨_, rfl, by cases a <;> cases b <;> exact .bool _⟩
    · have he : (Op.equal t (.bool a) (.bool b)).run P w = .ok (a == b) w := equalIn_bool 9999 hu a b
      have h2 : binOp .neq t (.bool a) (.bool b) = (do pure (.bool (!(← Op.equal t (.bool a) (.bool b)))) : Sem Value) := rfl
      rw [h2, Sem.run_bind, he]
      exact ⟨_, rfl, by cases a <;> cases b <;> exact .bool _⟩
  · simp [eqV] at h

theorem eqP_ok {t e : TypeId} {neg : Bool} {x y z : AV} {v u : Value} (p q : Operand) (hu : P.underlying t = some (.pointer e)) (hx : VR ρ x v) (hy : VR ρ y u) (h : eqV neg (eqP x y) = some z) {op : BinOp} (ho : isEq op = some neg) :
    ∃ r, (do eqGuard op t p q v u; binOp op t v u : Sem Value).run P w = .ok r w ∧ VR ρ z r := by
  have key : ∀ (v u : Value) (b : Bool), eqP x y = some b → VR ρ x v → VR ρ y u → (eqGuard op t p q v u).run P w = .ok () w ∧ (Op.equal t v u).run P w = .ok b w ∧ (binOp .eql t v u = do pure (.bool (← Op.equal t v u))) ∧ (binOp .neq t v u = do pure (.bool (!(← Op.equal t v u)))) := by
    intro v u b hb hx hy
    have he : (Op.equal t v u).run P w = .ok b w := equalIn_ptr 9999 hu hb hx hy
    unfold eqP at hb
    split at hb <;> first | (cases hb; done) | skip
    all_goals
      cases hb
      cases hx
      cases hy
      refine ⟨?_, he, rfl, rfl⟩
      unfold eqGuard
      cases op <;> simp
  cases hb : eqP x y with
  | none => rw [hb] at h; simp [eqV] at h
  | some b =>
    rw [hb] at h
    simp only [eqV, Option.some.injEq] at h
    subst h
    obtain ⟨h1, h2, h3, h4⟩ := key v u b hb hx hy
    rw [Sem.run_bind, h1, Result.andThen_ok]
    cases op <;> simp only [isEq, Option.some.injEq, reduceCtorEq] at ho <;> subst ho
    · rw [h3, Sem.run_bind, h2]; exact ⟨_, rfl, by cases b <;> exact .bool _⟩
    · rw [h4, Sem.run_bind, h2]; exact ⟨_, rfl, by cases b <;> exact .bool _⟩

theorem eqSl_ok {t e : TypeId} {neg : Bool} {x y z : AV} {v u : Value} (p q : Operand) (hu : P.underlying t = some (.slice e)) (hx : VR ρ x v) (hy : VR ρ y u) (h : eqV neg (eqSl x y) = some z) {op : BinOp} (ho : isEq op = some neg) :
    ∃ r, (do eqGuard op t p q v u; binOp op t v u : Sem Value).run P w = .ok r w ∧ VR ρ z r := by
  have key : ∀ (v u : Value) (b : Bool), eqSl x y = some b → VR ρ x v → VR ρ y u → (eqGuard op t p q v u).run P w = .ok () w ∧ (Op.equal t v u).run P w = .ok b w ∧ (binOp .eql t v u = do pure (.bool (← Op.equal t v u))) ∧ (binOp .neq t v u = do pure (.bool (!(← Op.equal t v u)))) := by
    intro v u b hb hx hy
    have he : (Op.equal t v u).run P w = .ok b w := equalIn_sl 9999 hu hb hx hy
    unfold eqSl at hb
    split at hb <;> first | (cases hb; done) | skip
    all_goals
      cases hb
      cases hx
      cases hy
      refine ⟨?_, he, rfl, rfl⟩
      unfold eqGuard
      cases op <;> simp
  cases hb : eqSl x y with
  | none => rw [hb] at h; simp [eqV] at h
  | some b =>
    rw [hb] at h
    simp only [eqV, Option.some.injEq] at h
    subst h
    obtain ⟨h1, h2, h3, h4⟩ := key v u b hb hx hy
    rw [Sem.run_bind, h1, Result.andThen_ok]
    cases op <;> simp only [isEq, Option.some.injEq, reduceCtorEq] at ho <;> subst ho
    · rw [h3, Sem.run_bind, h2]; exact ⟨_, rfl, by cases b <;> exact .bool _⟩
    · rw [h4, Sem.run_bind, h2]; exact ⟨_, rfl, by cases b <;> exact .bool _⟩

theorem notA_ok {x z : AV} {v : Value} (hx : VR ρ x v) (h : notA x = some z) : ∃ r, (Op.unary .not v).run P w = .ok r w ∧ VR ρ z r := by
  unfold notA at h
  split at h
  · cases h
    obtain rfl := hx.bool_inv
    exact ⟨_, by simp [Op.unary], .bool _⟩
  · cases h
theorem negA_ok {x z : AV} {v : Value} (hx : VR ρ x v) (h : negA x = some z) : ∃ r, (Op.unary .neg v).run P w = .ok r w ∧ VR ρ z r := by
  unfold negA at h
  split at h
  · cases h
    obtain rfl := hx.int_inv
    exact ⟨_, by simp only [Op.unary, Op.intArith]; rfl, .int _ _⟩
  · cases h
theorem cvtI_ok {src dst : TypeId} {j k : IntKind} {x z : AV} {v : Value} (hs : P.underlying src = some (.int j)) (hd : P.underlying dst = some (.int k)) (hx : VR ρ x v) (h : cvtI k x = some z) :
    ∃ r, (convert src dst v).run P w = .ok r w ∧ VR ρ z r := by
  unfold cvtI at h
  split at h
  · cases h
    obtain rfl := hx.int_inv
    exact ⟨_, by simp [convert, run_underlying hs, run_underlying hd, Conv.intToInt], .int _ _⟩
  · cases h
theorem cvtS_ok {src dst : TypeId} {x z : AV} {v : Value} (hs : P.underlying src = some .string) (hd : P.underlying dst = some .string) (hx : VR ρ x v) (h : cvtS x = some z) :
    ∃ r, (convert src dst v).run P w = .ok r w ∧ VR ρ z r := by
  unfold cvtS at h
  split at h
  · cases h
    obtain ⟨s, rfl, rfl⟩ := hx.str_inv
    exact ⟨_, by simp [convert, run_underlying hs, run_underlying hd], .str _⟩
  · cases h
theorem ifaceA_ok {t : TypeId} {d : TypeDesc} {x z : AV} {v : Value} (hd : P.underlying t = some d) (hn : ∀ ms, d ≠ .interface ms) (hx : VR ρ x v) (h : ifaceA t x = some z) :
    ∃ r, (Instr.makeInterface t v).run P w = .ok r w ∧ VR ρ z r := by
  have hr : (Instr.makeInterface t v).run P w = .ok (.iface t v) w := by
    cases d with
    | interface ms => exact absurd rfl (hn ms)
    | _ => simp [Instr.makeInterface, run_underlying hd]
  unfold ifaceA at h
  split at h
  · cases h
  · cases h
  · cases h
    exact ⟨_, hr, .iface hx⟩
theorem assertA_ok {xt t : TypeId} {d : TypeDesc} {z x y : AV} {v : Value} (hd : P.underlying t = some d) (hn : ∀ ms, d ≠ .interface ms) (hz : zeroOf P t = some z) (hx : VR ρ x v) (h : assertA t z x = some y) :
    ∃ r, (Instr.typeAssert v xt t true).run P w = .ok r w ∧ VR ρ y r := by
  obtain ⟨zv, hzr, hzv⟩ := run_zero (ρ := ρ) (w := w) hz
  have two : ∀ {a : AV} {u : Value} (b : Bool), VR ρ a u → VR ρ (.tup [a, .bool b]) (.tuple #[u, .bool b]) := fun b ha => .tup (.cons ha (.cons (.bool b) .nil))
  unfold assertA at h
  split at h
  · cases hx with
    | iface hv =>
      rename_i u a v
      split at h
      · rename_i hb
        cases h
        obtain rfl := Nat.eq_of_beq_eq_true hb
        refine ⟨_, ?_, two true hv⟩
        cases d with
        | interface ms => exact absurd rfl (hn ms)
        | _ => simp [Instr.typeAssert, run_underlying hd]
      · rename_i hb
        cases h
        have hne : u ≠ t := Nat.ne_of_beq_eq_false hb
        refine ⟨_, ?_, two false hzv⟩
        cases d with
        | interface ms => exact absurd rfl (hn ms)
        | _ => simp [Instr.typeAssert, run_underlying hd, hne, hzr]
  · cases h
    cases hx
    refine ⟨_, ?_, two false hzv⟩
    cases d with
    | interface ms => exact absurd rfl (hn ms)
    | _ => simp [Instr.typeAssert, run_underlying hd, hzr]
  · cases h
end
end Go.Ex
/-! # Slices, literals, lengths, maps -/
namespace Go.Ex
open Go.RowKit

section
variable {P : Program} {base : Nat} {w0 w : World} {ρ : Loc} {s : AS} {fr : Frm} {a : Act}

theorem funcA_ok {f : FuncId} {xs : List AV} {vs : Array Value} {z : AV} (hx : VRL ρ xs vs.toList) (h : funcA f xs = some z) :
    ∃ r, (Instr.makeFunc (.func f) #[] vs).run P w = .ok r w ∧ VR ρ z r := by
  simp only [funcA, Option.some.injEq] at h
  subst h
  exact ⟨_, rfl, .func hx⟩

/-- A bound, or what stands for it. -/
def OR (ρ : Loc) : Option AV → Option Value → Prop
  | none, none => True
  | some x, some v => VR ρ x v
  | _, _ => False
theorem FR.opt (h : FR ρ fr a.tmps) (x : Option Operand) : OR ρ (x.map (Go.Ex.ev fr)) (x.map a.eval) := by
  cases x with
  | none => trivial
  | some x => exact h.ev x
/-- A bound. -/
theorem bnd_ok {x : AV} {v : Value} {d y n : Nat} {code : BoundsCode} (hx : VR ρ x v) (h : bnd (some x) d y = some n) : (Instr.sliceBound v y code).run P w = .ok n w ∧ n ≤ y := by
  cases x <;> simp only [bnd, reduceCtorEq] at h
  obtain rfl := hx.int_inv
  split at h
  · rename_i hb
    cases h
    simp only [Bool.and_eq_true, decide_eq_true_eq] at hb
    exact ⟨by simp [Instr.sliceBound, asIntOf, hb], by omega⟩
  · cases h
theorem bounds_ok {isSlice : Bool} {len cap l h m : Nat} {lo hi mx : Option AV} {lv hv mv : Option Value} (hlo : OR ρ lo lv) (hhi : OR ρ hi hv) (hmx : OR ρ mx mv)
    (hc : mx.isSome = true → hi.isSome = true) (hm : bnd mx cap cap = some m) (hh : bnd hi len m = some h) (hl : bnd lo 0 h = some l) :
    (Instr.sliceBounds isSlice len cap lv hv mv).run P w = .ok (l, h, m) w := by
  have h3 : ∀ c, (match lv with | some v => Instr.sliceBound v h c | none => pure 0 : Sem Nat).run P w = .ok l w := by
    intro c
    cases lo with
    | none => cases lv with
      | none => simp [bnd] at hl; subst hl; rfl
      | some _ => exact hlo.elim
    | some x => cases lv with
      | none => exact hlo.elim
      | some u => exact (bnd_ok hlo hl).1
  cases mx with
  | none => cases mv with
    | some _ => exact hmx.elim
    | none =>
      simp only [bnd, Option.some.injEq] at hm
      subst hm
      cases hi with
      | none => cases hv with
        | some _ => exact hhi.elim
        | none =>
          simp only [bnd, Option.some.injEq] at hh
          subst hh
          simp only [Instr.sliceBounds, Sem.run_bind, Sem.run_pure, Result.andThen_ok]
          cases lv <;> simp_all
      | some y => cases hv with
        | none => exact hhi.elim
        | some u =>
          have h2 := fun c => (bnd_ok (P := P) (w := w) (code := c) hhi hh).1
          simp only [Instr.sliceBounds, Sem.run_bind, Sem.run_pure, Result.andThen_ok, h2]
          cases lv <;> simp_all
  | some z => cases mv with
    | none => exact hmx.elim
    | some q =>
      have h1 := fun c => (bnd_ok (P := P) (w := w) (code := c) hmx hm).1
      cases hi with
      | none => simp at hc
      | some y => cases hv with
        | none => exact hhi.elim
        | some u =>
          have h2 := fun c => (bnd_ok (P := P) (w := w) (code := c) hhi hh).1
          simp only [Instr.sliceBounds, Sem.run_bind, Result.andThen_ok, h1, h2]
          cases lv <;> simp_all
theorem bnd_le {x : Option AV} {d y n : Nat} (h : bnd x d y = some n) (hd : d ≤ y) : n ≤ y := by
  unfold bnd at h
  split at h
  · cases h; exact hd
  · split at h
    · rename_i hb
      cases h
      simp only [Bool.and_eq_true, decide_eq_true_eq] at hb
      omega
    · cases h
  · cases h

theorem bnd_le' {x : AV} {d y n : Nat} (h : bnd (some x) d y = some n) : n ≤ y := by
  cases x <;> simp only [bnd, reduceCtorEq] at h
  split at h
  · rename_i hb
    cases h
    simp only [Bool.and_eq_true, decide_eq_true_eq] at hb
    omega
  · cases h
theorem bnd_mono {x : AV} {d d' y y' n : Nat} (h : bnd (some x) d y = some n) (hy : y ≤ y') : bnd (some x) d' y' = some n := by
  cases x <;> simp only [bnd, reduceCtorEq] at h ⊢
  split at h
  · rename_i hb
    cases h
    simp only [Bool.and_eq_true, decide_eq_true_eq] at hb
    have h1 := hb.1
    have h2 : _ ≤ (y' : Int) := Int.le_trans hb.2 (by omega)
    simp [h1, h2]
  · cases h

theorem cutStr_ok {t : TypeId} {x z : AV} {v : Value} {lo hi : Option AV} {l h' : Option Value} (hu : P.underlying t = some .string) (hx : VR ρ x v) (hlo : OR ρ lo l) (hhi : OR ρ hi h') (h : cutStr x lo hi = some z) :
    ∃ r, (Instr.sliceAt t v l h' none).run P w = .ok r w ∧ VR ρ z r := by
  unfold cutStr at h
  split at h
  · obtain ⟨s, rfl, rfl⟩ := hx.str_inv
    rw [slen_enc, size_list] at h
    split at h
    · cases h
    · rename_i hh hbh
      split at h
      · cases h
      · rename_i ll hbl
        cases h
        have e : (s.extract ll hh).data.toList = (s.data.toList.drop ll).take (hh - ll) := by
          simp [ByteArray.data_extract, List.extract_eq_take_drop]
        refine ⟨.string (s.extract ll hh), ?_, ?_⟩
        · have b := bounds_ok (P := P) (w := w) (isSlice := false) (mx := none) (mv := none) hlo hhi trivial (by simp) rfl hbh hbl
          simp [Instr.sliceAt, run_underlying hu, Instr.slice, b]
        · rw [scut_enc _ _ _ (bnd_le hbl (Nat.zero_le _)) (by rw [size_list]; exact bnd_le hbh (Nat.le_refl _)), ← e]
          exact .str _
  · cases h

theorem cutSl_ok {t e : TypeId} {n : Nat} {x z : AV} {v : Value} {lo hi mx : Option AV} {l h' m' : Option Value} (hu : P.underlying t = some (.slice e)) (hs : szOf P e = some n) (hx : VR ρ x v)
    (hlo : OR ρ lo l) (hhi : OR ρ hi h') (hmx : OR ρ mx m') (hc : mx.isSome = true → hi.isSome = true) (h : cutSl n x lo hi mx = some z) :
    ∃ r, (Instr.sliceAt t v l h' m').run P w = .ok r w ∧ VR ρ z r := by
  have run : ∀ (A : Option Addr) (len cap ll hh mm : Nat), (Instr.sliceBounds true len cap l h' m').run P w = .ok (ll, hh, mm) w →
      (Instr.sliceAt t (.slice A len cap) l h' m').run P w = .ok (.slice (if mm = ll then A else A.map (·.add (ll * n))) (hh - ll) (mm - ll)) w := by
    intro A len cap ll hh mm hb
    simp [Instr.sliceAt, run_underlying hu, Instr.slice, hb, run_size hs]
  unfold cutSl at h
  split at h
  · split at h
    · cases h
    · rename_i m hm
      split at h
      · cases h
      · rename_i hh hbh
        split at h
        · cases h
        · rename_i ll hbl
          cases h
          cases hx
          have h1 := bnd_le hm (Nat.le_refl _)
          obtain rfl : m = 0 := by omega
          have h2 := bnd_le hbh (Nat.le_refl _)
          obtain rfl : hh = 0 := by omega
          have h3 := bnd_le hbl (Nat.le_refl _)
          obtain rfl : ll = 0 := by omega
          exact ⟨_, run _ _ _ _ _ _ (bounds_ok hlo hhi hmx hc hm hbh hbl), by simpa using VR.nilslice⟩
  · rename_i b off len cap
    split at h
    · cases h
    · rename_i m hm
      split at h
      · cases h
      · rename_i hh hbh
        split at h
        · cases h
        · rename_i ll hbl
          cases hx with
          | slice hcb hle =>
            have hhm : hh ≤ m := by
              cases hi with
              | some y => exact bnd_le' hbh
              | none =>
                cases mx with
                | some q => simp at hc
                | none =>
                  simp only [bnd, Option.some.injEq] at hm hbh
                  omega
            refine ⟨_, run _ _ _ _ _ _ (bounds_ok hlo hhi hmx hc hm hbh hbl), ?_⟩
            split at h
            · rename_i he
              cases h
              rw [if_pos (Nat.eq_of_beq_eq_true he)]
              exact .slice hcb (by omega)
            · rename_i he
              cases h
              rw [if_neg (Nat.ne_of_beq_eq_false he)]
              simp only [Option.map_some, addr_add]
              exact .slice hcb (by omega)
  · rename_i b len
    cases hx with
    | gslice hcb hle =>
      rename_i c cap
      split at h
      · rename_i mxv
        split at h
        · cases h
        · rename_i m hm
          split at h
          · cases h
          · rename_i hh hbh
            split at h
            · cases h
            · rename_i ll hbl
              have hm' : bnd (some mxv) cap cap = some m := bnd_mono hm hle
              have hhm : hh ≤ m := by
                cases hi with
                | some y => exact bnd_le' hbh
                | none => simp at hc
              refine ⟨_, run _ _ _ _ _ _ (bounds_ok hlo hhi hmx hc hm' hbh hbl), ?_⟩
              split at h
              · rename_i he
                cases h
                rw [if_pos (Nat.eq_of_beq_eq_true he)]
                exact .slice hcb (by omega)
              · rename_i he
                cases h
                rw [if_neg (Nat.ne_of_beq_eq_false he)]
                simp only [Option.map_some, addr_add, Nat.zero_add]
                exact .slice hcb (by omega)
      · split at h
        · cases h
        · rename_i hh hbh
          split at h
          · cases h
          · rename_i ll hbl
            have hhl : hh ≤ len := bnd_le hbh (Nat.le_refl _)
            have hll : ll ≤ hh := bnd_le hbl (Nat.zero_le _)
            have hbh' : bnd hi len cap = some hh := by
              cases hi with
              | none => exact hbh
              | some y => exact bnd_mono hbh hle
            have hrun := run (some ⟨c, 0, none⟩) len cap ll hh cap (bounds_ok hlo hhi hmx hc rfl hbh' hbl)
            refine ⟨_, hrun, ?_⟩
            split at h
            · rename_i he
              cases h
              obtain rfl := Nat.eq_of_beq_eq_true he
              have : (if cap = 0 then some (⟨c, 0, none⟩ : Addr) else (some (⟨c, 0, none⟩ : Addr)).map (·.add (0 * n))) = some ⟨c, 0, none⟩ := by
                split <;> simp [Addr.add]
              rw [this]
              simpa using VR.gslice hcb (by omega)
            · rename_i he
              have hne := Nat.ne_of_beq_eq_false he
              split at h
              · rename_i he2
                cases h
                obtain rfl := Nat.eq_of_beq_eq_true he2
                rw [Nat.sub_self]
                split
                · exact .nomore _ _
                · exact .nomore _ _
              · rename_i he2
                cases h
                have hne2 := Nat.ne_of_beq_eq_false he2
                rw [if_neg (by omega)]
                simp only [Option.map_some, addr_add, Nat.zero_add]
                exact .part hcb (by omega)
  · cases h
end
end Go.Ex
/-! # Literals, new blocks, stores of values -/
namespace Go.Ex
open Go.RowKit

section
variable {P : Program} {base : Nat} {w0 w : World} {ρ : Loc} {s : AS} {fr : Frm} {a : Act}

theorem fill_cells (off : Nat) : ∀ (L : List Value) (k : Nat) (vs : Array Value), off + k + L.length ≤ vs.size →
    ((L.zipIdx k).foldl (fun cs p => cs.setIfInBounds (off + p.2) p.1) vs).toList = vs.toList.take (off + k) ++ L ++ vs.toList.drop (off + k + L.length)
  | [], k, vs, _ => by simp
  | v :: L, k, vs, h => by
    simp only [List.zipIdx_cons, List.foldl_cons]
    rw [fill_cells off L (k + 1) _ (by simp at h ⊢; omega)]
    have e := list_seg_step vs.toList (off + k) v L (by simp at h ⊢; omega)
    simpa [Array.toList_setIfInBounds, Nat.add_assoc] using e

theorem fill_ok {pl : Nat → Option (Nat × Nat)} (hf : FR ρ fr a.tmps) : ∀ (parts : List (Nat × Operand)) {l : List (Nat × Nat × AV)} {cs r : List AV} {vs : Array Value},
    placed pl fr parts = some l → VRL ρ cs vs.toList → fillA cs l = some r → ∃ vs', Instr.fill pl vs (parts.map fun p => (p.1, a.eval p.2)) = some vs' ∧ VRL ρ r vs'.toList
  | [], l, cs, r, vs, hp, hv, h => by
    simp only [placed, Option.some.injEq] at hp
    subst hp
    simp only [fillA, Option.some.injEq] at h
    subst h
    exact ⟨vs, rfl, hv⟩
  | (i, x) :: parts, l, cs, r, vs, hp, hv, h => by
    simp only [placed] at hp
    cases hi : pl i with
    | none => rw [hi] at hp; simp at hp
    | some on =>
      obtain ⟨off, n⟩ := on
      cases hr : placed pl fr parts with
      | none => rw [hi, hr] at hp; simp at hp
      | some l' =>
        rw [hi, hr] at hp
        simp only [Option.some.injEq] at hp
        subst hp
        simp only [fillA] at h
        cases hc : (ev fr x).cellsOf with
        | none => rw [hc] at h; simp at h
        | some xs =>
          rw [hc] at h
          simp only at h
          cases hl : Nat.beq xs.length n with
          | false => rw [hl] at h; simp at h
          | true =>
            rw [hl] at h
            simp only at h
            cases hsp : splice cs off xs with
            | none => rw [hsp] at h; simp at h
            | some c' =>
              rw [hsp] at h
              simp only at h
              obtain rfl := Nat.eq_of_beq_eq_true hl
              have hx := (hf.ev x).cells hc
              have hxl : (a.eval x).cells.size = xs.length := by simpa using hx.length.symm
              have hvl : vs.size = cs.length := by simpa using hv.length.symm
              obtain ⟨hle, rfl⟩ := splice_eq hsp
              have h1 := fill_cells off (a.eval x).cells.toList 0 vs (by simp; omega)
              have h2 : ((a.eval x).cells.zipIdx.foldl (fun cs p => cs.setIfInBounds (off + p.2) p.1) vs) = ((a.eval x).cells.toList.zipIdx.foldl (fun cs p => cs.setIfInBounds (off + p.2) p.1) vs) := by
                rw [← Array.foldl_toList]
                congr 1
                simp
              have h3 : VRL ρ (cs.take off ++ xs ++ cs.drop (off + xs.length)) ((a.eval x).cells.zipIdx.foldl (fun cs p => cs.setIfInBounds (off + p.2) p.1) vs).toList := by
                have hxl' : (a.eval x).cells.toList.length = xs.length := by simpa using hxl
                rw [h2, h1, hxl', Nat.add_zero]
                exact ((hv.takeL off).append hx).append (hv.dropL _)
              obtain ⟨vs', h4, h5⟩ := fill_ok hf parts hr h3 h
              refine ⟨vs', ?_, h5⟩
              simp only [List.map_cons, Instr.fill, hi]
              rw [if_neg (by simp [hxl]; omega)]
              exact h4

theorem newBox_ok (hr : Rel P base w0 ρ s w) {e : TypeId} {x y : AV} {v : Value} {s' : AS} (hx : VR ρ x v) (h : newBox s e x = some (y, s')) :
    ∃ ρ' c, (newVar e v).run P w = .ok ⟨c, 0, none⟩ (w.alloc (.cells v.cells e)) ∧ Rel P base w0 ρ' s' (w.alloc (.cells v.cells e)) ∧ Step ρ s w ρ' s' (w.alloc (.cells v.cells e)) ∧ VR ρ' y (.pointer (some ⟨c, 0, none⟩)) := by
  unfold newBox at h
  split at h
  · cases h
  · rename_i cs hc
    unfold newRow at h
    split at h
    · cases h
      have h1 := hx.cells hc
      obtain ⟨h2, h3⟩ := hr.newCells (e := e) h1
      refine ⟨_, w.heap.size, by simp [newVar, Go.newRow], h2, h3, .ptr (c := w.heap.size) (k := 0) (by simp [Loc.add])⟩
    · cases h

theorem stV_ok (hr : Rel P base w0 ρ s w) {t : TypeId} {n : Nat} {p x y : AV} {u v : Value} {s' : AS} (hs : szOf P t = some n) (hp : VR ρ p u) (hx : VR ρ x v) (h : stV s p n x = some (y, s')) :
    ∃ w', (Instr.storeAt t u v).run P w = .ok () w' ∧ Rel P base w0 ρ s' w' ∧ Step ρ s w ρ s' w' ∧ y = .poison := by
  unfold stV at h
  split at h
  · cases h
  · rename_i cs hc
    split at h
    · rename_i hl
      split at h
      · cases h
      · rename_i s1 hst
        cases h
        have h1 := hx.cells hc
        obtain ⟨c, o, w', rfl, hrun, h2, h3⟩ := hr.storeN hp h1 hst
        have hsz : v.cells.size = n := by
          have := h1.length
          have := Nat.eq_of_beq_eq_true hl
          simp at *; omega
        exact ⟨w', by simp [Instr.storeAt, Instr.sureAddr, storeVar, run_size hs, hsz, hrun], h2, h3, rfl⟩
    · cases h

theorem VRL.flatten_rep {zs : List AV} {vs : List Value} (h : VRL ρ zs vs) : ∀ n, VRL ρ (rep n zs) ((List.replicate n vs).flatten)
  | 0 => .nil
  | n + 1 => by
    simp only [rep, List.replicate_succ, List.flatten_cons]
    exact h.append (VRL.flatten_rep h n)
theorem rep_length (n : Nat) (zs : List AV) : (rep n zs).length = n * zs.length := by
  induction n with
  | zero => simp [rep]
  | succ n ih => simp [rep, ih, Nat.succ_mul]; omega
/-- The zero cells of n elements. -/
theorem zeros_eq (zero : Array Value) (n : Nat) : ((Array.range (n * zero.size)).map fun i => zero[i % zero.size]!).toList = (List.replicate n zero.toList).flatten := by
  induction n with
  | zero => simp
  | succ n ih =>
    by_cases hz : zero.size = 0
    · have : zero = #[] := by simpa using hz
      subst this
      simp
    · rw [List.replicate_succ']
      simp only [List.flatten_append, List.flatten_cons, List.flatten_nil, List.append_nil]
      rw [← ih]
      simp only [Array.toList_map, Array.toList_range, Nat.succ_mul]
      rw [List.range_add, List.map_append]
      congr 1
      apply List.ext_getElem?
      intro j
      simp only [List.map_map, List.getElem?_map]
      by_cases hj : j < zero.size
      · have h1 : (n * zero.size + j) % zero.size = j := by rw [Nat.mul_comm, Nat.mul_add_mod]; exact Nat.mod_eq_of_lt hj
        rw [List.getElem?_range hj]
        simp [h1, hj]
      · rw [List.getElem?_eq_none (by simp; omega), List.getElem?_eq_none (by simp; omega)]
        rfl

theorem run_places (fs : Array Go.Field) (h : (fs.toList.all fun f => (szOf P f.type).isSome) = true) :
    (fs.mapM fun f => (do pure (f.offset, ← sizeOf f.type) : Sem (Nat × Nat))).run P w = .ok (fs.map fun f => (f.offset, (szOf P f.type).getD 0)) w := by
  rw [Array.mapM_eq_mapM_toList]
  have : ∀ l : List Go.Field, (l.all fun f => (szOf P f.type).isSome) = true →
      (l.mapM fun f => (do pure (f.offset, ← sizeOf f.type) : Sem (Nat × Nat))).run P w = .ok (l.map fun f => (f.offset, (szOf P f.type).getD 0)) w := by
    intro l
    induction l with
    | nil => intro _; rfl
    | cons f l ih =>
      intro hl
      simp only [List.all_cons, Bool.and_eq_true] at hl
      obtain ⟨n, hn⟩ := Option.isSome_iff_exists.1 hl.1
      rw [List.mapM_cons]
      simp only [Sem.run_bind, run_size hn, Result.andThen_ok, Sem.run_pure, ih hl.2, List.map_cons, hn, Option.getD_some]
  simp only [Sem.run_map, this _ h, Result.andThen_ok]
  congr 1
  apply Array.ext'
  simp

theorem build_ok (hf : FR ρ fr a.tmps) {t : TypeId} {parts : Array (Nat × Operand)} {z : List AV} {l : List (Nat × Nat × AV)} {y : AV} (hz : zeroOf P t = some (.agg z)) (ha : allSized P t = true) (hp : placed (placeOf P t) fr parts.toList = some l) (h : buildA z l = some y) :
    ∃ v, (Instr.build t (parts.map fun p => (p.1, a.eval p.2))).run P w = .ok v w ∧ VR ρ y v := by
  obtain ⟨zv, hzr, hzv⟩ := run_zero (ρ := ρ) (w := w) hz
  cases hzv with
  | agg hzc =>
    rename_i zc
    unfold buildA at h
    split at h
    · cases h
    · rename_i cs hfl
      cases h
      obtain ⟨vs', h1, h2⟩ := fill_ok hf parts.toList hp hzc hfl
      have hpm : (parts.map fun p => (p.1, a.eval p.2)).toList = parts.toList.map fun p => (p.1, a.eval p.2) := by simp
      refine ⟨.agg vs', ?_, .agg h2⟩
      unfold allSized at ha
      split at ha
      · rename_i fs hu
        have hpl : (fun i => (fs.map fun f => (f.offset, (szOf P f.type).getD 0))[i]?) = placeOf P t := by
          funext i
          simp only [placeOf, hu, Array.getElem?_map]
          cases hi : fs[i]? with
          | none => rfl
          | some f =>
            have hf := List.all_eq_true.1 ha f (Array.mem_toList_iff.2 (Array.mem_of_getElem? hi))
            obtain ⟨n, hn⟩ := Option.isSome_iff_exists.1 hf
            simp [hn]
        simp only [Instr.build, Sem.run_bind, hzr, Result.andThen_ok, run_underlying hu, run_places fs ha, hpm, hpl, Value.cells, h1, Sem.run_pure]
      · rename_i k e hu
        obtain ⟨n, hn⟩ := Option.isSome_iff_exists.1 ha
        have hpl : (fun i => some (i * n, n)) = placeOf P t := by
          funext i
          simp only [placeOf, hu, hn]
        simp only [Instr.build, Sem.run_bind, hzr, Result.andThen_ok, run_underlying hu, run_size hn, hpm, hpl, Value.cells, h1, Sem.run_pure]
      · cases ha

theorem buildS_ok (hr : Rel P base w0 ρ s w) (hf : FR ρ fr a.tmps) {t e : TypeId} {len n : Nat} {parts : Array (Nat × Operand)} {z : AV} {zc : List AV} {l : List (Nat × Nat × AV)} {y : AV} {s' : AS}
    (hu : P.underlying t = some (.slice e)) (hs : szOf P e = some n) (hz : zeroOf P e = some z) (hc : z.cellsOf = some zc) (hn : (Nat.beq zc.length n && Nat.ble (len * n) (2 ^ 24)) = true)
    (hp : placed (fun i => some (i * n, n)) fr parts.toList = some l) (h : buildS s e len (rep len zc) l = some (y, s')) :
    ∃ ρ' w' v, (Instr.buildSlice t len (parts.map fun p => (p.1, a.eval p.2))).run P w = .ok v w' ∧ Rel P base w0 ρ' s' w' ∧ Step ρ s w ρ' s' w' ∧ VR ρ' y v := by
  obtain ⟨zv, hzr, hzv⟩ := run_zero (ρ := ρ) (w := w) hz
  simp only [Bool.and_eq_true] at hn
  have hn1 := Nat.eq_of_beq_eq_true hn.1
  have hn2 := Nat.le_of_ble_eq_true hn.2
  have hzc := hzv.cells hc
  have hzs : zv.cells.size = n := by have := hzc.length; simp at this; omega
  unfold buildS at h
  split at h
  · cases h
  · rename_i cs hfl
    split at h
    · cases h
      have h0 : VRL ρ (rep len zc) ((Array.range (len * n)).map fun i => zv.cells[i % zv.cells.size]!).toList := by
        rw [← hzs, zeros_eq]
        exact hzc.flatten_rep len
      obtain ⟨vs', h1, h2⟩ := fill_ok hf parts.toList hp h0 hfl
      obtain ⟨h3, h4⟩ := hr.newCells (e := e) h2
      refine ⟨_, _, .slice (some ⟨w.heap.size, 0, none⟩) len len, ?_, h3, h4, .slice (c := w.heap.size) (k := 0) (by simp [Loc.add]) (Nat.le_refl _)⟩
      have hpm : (parts.map fun p => (p.1, a.eval p.2)).toList = parts.toList.map fun p => (p.1, a.eval p.2) := by simp
      have hlim : ¬ len * n > 2 ^ 24 := by omega
      by_cases h0n : len * n = 0
      · have he : ((Array.range (len * n)).map fun i => (#[] : Array Value)[i % (#[] : Array Value).size]!) = ((Array.range (len * n)).map fun i => zv.cells[i % zv.cells.size]!) := by simp [h0n]
        simp only [Instr.buildSlice, Sem.run_bind, run_underlying hu, Result.andThen_ok, run_size hs, h0n, if_true, Sem.run_pure, gt_iff_lt, Nat.not_lt_zero, if_false]
        rw [h0n] at he h1
        simp only [he, hpm, h1, Sem.run_bind, Sem.run_pure, Result.andThen_ok]
        rfl
      · simp only [Instr.buildSlice, Sem.run_bind, run_underlying hu, Result.andThen_ok, run_size hs, hlim, if_false, h0n, hzr, Sem.run_pure, hpm, h1]
        rfl
    · cases h
end
end Go.Ex
/-! # append -/
namespace Go.Ex
open Go.RowKit

section
variable {P : Program} {base : Nat} {w0 w : World} {ρ : Loc} {s : AS} {fr : Frm} {a : Act}

theorem Rel.drew (hr : Rel P base w0 ρ s w) : Rel P base w0 ρ s w.drew :=
  ⟨fun b x h => hr.live b x h, hr.inj, hr.fresh, hr.bound, hr.below.drew, hr.size⟩
theorem Step.drew : Step ρ s w ρ s w.drew := ⟨fun _ _ => rfl, fun _ _ _ => rfl, fun _ h => .inr h, Nat.le_refl _, Nat.le_refl _, fun _ _ h => h⟩

/-- A block is forgotten. -/
theorem Rel.kill (hr : Rel P base w0 ρ s w) (b : Nat) : Rel P base w0 ρ (s.put b none) w ∧ Step ρ s w ρ (s.put b none) w := by
  have hget : ∀ {j y}, (s.put b none).get j = some y → s.get j = some y := by
    intro j y h
    rw [AS.get_put] at h
    split at h
    · cases h
    · exact h
  refine ⟨⟨fun j y h => hr.live j y (hget h), fun j j' y y' c k k' h h' => hr.inj j j' y y' c k k' (hget h) (hget h'), fun j hj => ⟨?_, (hr.fresh j hj).2⟩, hr.bound, hr.below, hr.size⟩,
    ⟨fun _ _ => rfl, fun _ _ _ => rfl, fun c ⟨j, y, k, h, hk⟩ => .inr ⟨j, y, k, hget h, hk⟩, Nat.le_refl _, Nat.le_refl _, fun j _ hd => ?_⟩⟩
  · rw [AS.get_put]
    split
    · rfl
    · exact (hr.fresh j hj).1
  · rw [AS.get_put]
    split
    · rfl
    · exact hd

/-- A block that goes on under a new number. -/
theorem Rel.regrow (hr : Rel P base w0 ρ s w) {b c k : Nat} {x x' : Blk} {w' : World} (hb : s.get b = some x) (hc : ρ b = some (c, k))
    (hw : ∀ j, j ≠ c → w'.heap[j]? = w.heap[j]?) (hs : w'.heap.size = w.heap.size) (hbl : Below base w0 w') (hx : RelBlk P (ρ.add s.n (c, k)) w' c k x') :
    Rel P base w0 (ρ.add s.n (c, k)) ((s.put b none).new x') w' ∧ Step ρ s w (ρ.add s.n (c, k)) ((s.put b none).new x') w' := by
  have hbn : b < s.n := by
    apply Nat.lt_of_not_le
    intro h
    rw [(hr.fresh b h).1] at hb
    cases hb
  have hold : ∀ j, j ≠ s.n → (ρ.add s.n (c, k)) j = ρ j := fun j hj => by simp [Loc.add, hj]
  have hnew : (ρ.add s.n (c, k)) s.n = some (c, k) := by simp [Loc.add]
  have hg : ∀ j, ((s.put b none).new x').get j = if j = s.n then some x' else if j = b then none else s.get j := by
    intro j
    rw [AS.get_new, AS.get_put]
    rfl
  have hne : ∀ j y, j ≠ b → s.get j = some y → ∀ q, ρ j ≠ some (c, q) := fun j y hj hy q hq => hj (hr.inj j b y x c q k hy hb hq hc)
  refine ⟨⟨fun j y hj => ?_, fun j j' y y' d q q' hj hj' hq hq' => ?_, fun j hj => ?_, fun j d q hq => ?_, hbl, hs ▸ hr.size⟩,
    ⟨fun j hj => hold j (by omega), fun d hd hn => hw d (fun e => hn (e ▸ ⟨b, x, k, hb, hc⟩)), fun d ⟨j, y, q, hj, hq⟩ => ?_, Nat.le_of_eq hs.symm, by simp [AS.new, AS.put], fun j hj hd => ?_⟩⟩
  · rw [hg] at hj
    split at hj
    · rename_i e; subst e; cases hj
      obtain ⟨c', k', h1, h2, _⟩ := hr.live b x hb
      rw [hc] at h1; cases h1
      exact ⟨c, k, hnew, h2, hx⟩
    · rename_i e
      split at hj
      · cases hj
      · rename_i e2
        obtain ⟨c', k', h1, h2, h3⟩ := hr.live j y hj
        have hcc : c' ≠ c := fun e3 => hne j y e2 hj k' (e3 ▸ h1)
        exact ⟨c', k', (hold j e).trans h1, h2, h3.mono (hr.ext_add _) (hw c' hcc)⟩
  · rw [hg] at hj hj'
    by_cases e : j = s.n
    · by_cases e' : j' = s.n
      · rw [e, e']
      · rw [if_neg e'] at hj'
        split at hj'
        · cases hj'
        · rename_i e2
          rw [e, hnew] at hq; cases hq
          rw [hold j' e'] at hq'
          exact absurd hq' (hne j' y' e2 hj' q')
    · rw [if_neg e] at hj
      split at hj
      · cases hj
      · rename_i e1
        by_cases e' : j' = s.n
        · rw [e', hnew] at hq'; cases hq'
          rw [hold j e] at hq
          exact absurd hq (hne j y e1 hj q)
        · rw [if_neg e'] at hj'
          split at hj'
          · cases hj'
          · rw [hold j e] at hq
            rw [hold j' e'] at hq'
            exact hr.inj j j' y y' d q q' hj hj' hq hq'
  · have hj' : s.n + 1 ≤ j := hj
    have := hr.fresh j (by omega)
    rw [hg, if_neg (by omega), if_neg (by omega), hold j (by omega)]
    exact this
  · by_cases e : j = s.n
    · rw [e, hnew] at hq; cases hq
      rw [hs]
      exact hr.bound b c k hc
    · rw [hold j e] at hq
      rw [hs]
      exact hr.bound j d q hq
  · rw [hg] at hj
    by_cases e : j = s.n
    · rw [e, hnew] at hq; cases hq
      exact .inr ⟨b, x, k, hb, hc⟩
    · rw [if_neg e] at hj
      split at hj
      · cases hj
      · rw [hold j e] at hq
        exact .inr ⟨j, y, q, hj, hq⟩
  · rw [hg, if_neg (by omega)]
    split
    · rfl
    · exact hd

theorem growBy_le (n : Nat) : ∀ (r c : Nat), Builtin.growBy n r c ≤ max c (2 * n + 192)
  | 0, c => by simp [Builtin.growBy]; omega
  | r + 1, c => by
    simp only [Builtin.growBy]
    split
    · omega
    · have := growBy_le n r (c + (c + 768) / 4)
      omega
theorem nextcap_le (need cap : Nat) (h : cap < need) : Builtin.nextslicecap need cap ≤ 2 * need + 192 := by
  unfold Builtin.nextslicecap
  split
  · omega
  · split
    · omega
    · have := growBy_le need 4 cap
      omega

/-- What is appended. -/
theorem srcA_ok (hr : Rel P base w0 ρ s w) {esz n : Nat} {y : AV} {v : Value} {ys : List AV} (hy : VR ρ y v) (h : srcA s esz y = some (n, ys)) :
    (Builtin.lenOf v).run P w = .ok n w ∧ ∃ vs, (Builtin.firstCells esz n v).run P w = .ok vs w ∧ VRL ρ ys vs.toList ∧ vs.size = n * esz := by
  have zero : ∀ A cap, (Builtin.firstCells esz 0 (.slice A 0 cap)).run P w = .ok #[] w := by
    intro A cap
    cases A <;> simp [Builtin.firstCells, loadCells, loadCellsFrom]
  have nonzero : ∀ {p : AV} {c o len cap : Nat} {cs : List AV}, VR ρ p (.pointer (some ⟨c, o, none⟩)) → ldN s p (len * esz) = some cs →
      ∃ vs, (Builtin.firstCells esz len (.slice (some ⟨c, o, none⟩) len cap)).run P w = .ok vs w ∧ VRL ρ cs vs.toList ∧ vs.size = len * esz := by
    intro p c o len cap cs hp hl
    obtain ⟨c', o', vs, he, h1, h2, h3, -⟩ := hr.loadN hp hl
    cases he
    exact ⟨vs, by simpa [Builtin.firstCells] using h1, h2, h3⟩
  unfold srcA at h
  split at h
  · cases h; cases hy
    exact ⟨rfl, #[], zero _ _, .nil, by simp⟩
  · cases h; cases hy
    exact ⟨rfl, #[], zero _ _, .nil, by simp⟩
  · split at h
    · cases h
    · rename_i p len hsl
      cases y <;> simp only [slAt, Option.some.injEq, reduceCtorEq, Prod.mk.injEq] at hsl <;> obtain ⟨rfl, rfl⟩ := hsl <;> cases hy <;>
      · split at h
        · rename_i hb
          cases h
          have := Nat.eq_of_beq_eq_true hb
          subst this
          exact ⟨rfl, #[], zero _ _, .nil, by simp⟩
        · split at h
          · cases h
          · rename_i cs hl
            cases h
            exact ⟨rfl, nonzero (.ptr (by assumption)) hl⟩

/-- The append itself, once it is known what is appended: there is room, or there is none. -/
theorem append_room {tx ty e ty2 : TypeId} {esz n sLen sCap : Nat} {A : Option Addr} {v : Value} {ys : Array Value} {t : TypeId} (hux : P.underlying tx = some (.slice e)) (huy : P.underlying ty = some (.slice ty2)) (hs : szOf P e = some esz)
    (hl : (Builtin.lenOf v).run P w = .ok n w) (hy : (Builtin.firstCells esz n v).run P w = .ok ys w) (hroom : sLen + n ≤ sCap) :
    (Builtin.append_ #[tx, ty] t #[.slice A sLen sCap, v]).run P w =
      ((match A with | some a => storeCells (a.add (sLen * esz)) ys.toList | none => pure () : Sem Unit).run P w).andThen fun _ w' => .ok (.slice A (sLen + n) sCap) w' := by
  cases A with
  | none => simp [Builtin.append_, run_underlying hux, run_underlying huy, run_size hs, hl, hy, hroom]
  | some a => simp [Builtin.append_, run_underlying hux, run_underlying huy, run_size hs, hl, hy, hroom]

theorem append_grow {tx ty e ty2 : TypeId} {esz n sLen sCap : Nat} {A : Option Addr} {v : Value} {os ys : Array Value} {zv : Value} {t : TypeId} (hux : P.underlying tx = some (.slice e)) (huy : P.underlying ty = some (.slice ty2)) (hs : szOf P e = some esz)
    (hl : (Builtin.lenOf v).run P w = .ok n w) (hy : (Builtin.firstCells esz n v).run P w.drew = .ok ys w.drew) (hroom : sCap < sLen + n)
    (ho : (Builtin.firstCells esz sLen (.slice A sLen sCap)).run P w.drew = .ok os w.drew) (hz : (zeroValue e).run P w.drew = .ok zv w.drew)
    (hb : (sLen + n) * bytesOf P e ≤ 2 ^ 40) (hlen : sLen + n < 2 ^ 63) (hpos : 0 < bytesOf P e):
    ∃ newCap, sLen + n ≤ newCap ∧ (Builtin.append_ #[tx, ty] t #[.slice A sLen sCap, v]).run P w =
      .ok (.slice (some ⟨w.heap.size, 0, none⟩) (sLen + n) newCap) (w.drew.alloc (.cells (os ++ ys ++ Builtin.zeroCells zv.cells (newCap - (sLen + n))) e)) := by
  obtain ⟨i, hi⟩ : ∃ i, P.info? e = some i := by
    unfold szOf at hs
    split at hs
    · rename_i i hi; exact ⟨i, hi⟩
    · cases hs
  have hbi : bytesOf P e = i.bytes := by simp [bytesOf, hi]
  rw [hbi] at hb hpos
  have hcap := nextcap_le (sLen + n) sCap hroom
  have h1 : ¬ Builtin.nextslicecap (sLen + n) sCap * i.bytes > 2 ^ 48 := by
    have h2 : Builtin.nextslicecap (sLen + n) sCap * i.bytes ≤ (2 * (sLen + n) + 192) * i.bytes := Nat.mul_le_mul_right _ hcap
    have h3 : (2 * (sLen + n) + 192) * i.bytes ≤ 194 * ((sLen + n) * i.bytes) := by
      have : 1 * i.bytes ≤ (sLen + n) * i.bytes := Nat.mul_le_mul_right _ (by omega)
      rw [Nat.add_mul, Nat.mul_assoc]
      omega
    have h4 : (2 : Nat) ^ 48 = 256 * 2 ^ 40 := by decide
    omega
  have h5 : ¬ ((((sLen + n : Nat) : Int) > IntKind.i64.max) ∧ (False ∨ i.bytes = 0)) := by
    rintro ⟨_, h | h⟩
    · exact h
    · omega
  refine ⟨sLen + n + (w.tape w.drawn (.appendCap (sLen + n) sCap e)) % (2 ^ 63 - (sLen + n)), by omega, ?_⟩
  have hnr : ¬ (sLen + n ≤ sCap) := by omega
  have h6 : (choose (.appendCap (sLen + n) sCap e)).run P w = .ok (sLen + n + (w.tape w.drawn (.appendCap (sLen + n) sCap e)) % (2 ^ 63 - (sLen + n))) w.drew := by
    simp only [run_choose, Question.forced, Bool.false_eq_true, if_false, Question.cut]
    rfl
  simp only [Builtin.append_, Sem.run_bind, List.getElem?_toArray, List.getElem?_cons_zero, List.getElem?_cons_succ, run_underlying hux, run_underlying huy, Result.andThen_ok, run_size hs, Sem.run_pure, Sem.run_ite, hl, Bool.false_eq_true, if_false, hnr, run_info hi, h1, h6, run_askRoom, ho, hy, hz]
  rw [if_neg h5]
  simp only [Bool.not_false, if_true, Result.andThen_ok, hz, Go.newRow, Sem.run_bind, run_newObj_alloc, Sem.run_pure]
  rfl

theorem szOf_info {e : TypeId} {n : Nat} (h : szOf P e = some n) : ∃ i, P.info? e = some i := by
  unfold szOf at h
  split at h
  · rename_i i hi; exact ⟨i, hi⟩
  · cases h
theorem bytes_pos {e : TypeId} (hb : bytesOf P e ≠ 0) : 0 < bytesOf P e := by omega

/-- Behind a row that grew. -/
theorem row_grown (hr : Rel P base w0 ρ s w) {e : TypeId} {esz need newCap : Nat} {cs : List AV} {os ys rest : Array Value} (hs : szOf P e = some esz)
    (h : VRL ρ cs (os ++ ys).toList) (hcs : cs.length = need * esz) (hc : need ≤ newCap) (hrest : rest.size = (newCap - need) * esz) :
    Rel P base w0 (ρ.add s.n (w.heap.size, newCap)) (s.new (.row e true cs)) (w.alloc (.cells (os ++ ys ++ rest) e)) ∧ Step ρ s w (ρ.add s.n (w.heap.size, newCap)) (s.new (.row e true cs)) (w.alloc (.cells (os ++ ys ++ rest) e)) := by
  have hl : (os ++ ys).size = cs.length := by simpa using h.length.symm
  have hmul : newCap * esz = need * esz + (newCap - need) * esz := by rw [← Nat.add_mul]; congr 1; omega
  refine hr.new newCap ⟨_, heap_alloc_at w _, ?_, ?_, fun h => (by cases h), fun _ => ⟨esz, hs, ?_⟩⟩
  · rw [Array.size_append, hl]; exact Nat.le_add_right _ _
  · have : (os ++ ys ++ rest).toList.take cs.length = (os ++ ys).toList := by
      rw [Array.toList_append, List.take_append_of_le_length (Nat.le_of_eq h.length), List.take_of_length_le (Nat.le_of_eq h.length.symm)]
    rw [this]
    exact h.mono (hr.ext_add _)
  · rw [Array.size_append, hl, hrest, hcs, hmul]

theorem zeroCells_size (z : Array Value) (n : Nat) : (Builtin.zeroCells z n).size = n * z.size := by simp [Builtin.zeroCells]

theorem appTo_ok (hr : Rel P base w0 ρ s w) {tx ty e ty2 t : TypeId} {esz n : Nat} {x y z zx : AV} {vx vy : Value} {ys : List AV} {s' : AS} {zc : List AV}
    (hux : P.underlying tx = some (.slice e)) (huy : P.underlying ty = some (.slice ty2)) (hs : szOf P e = some (esz + 1)) (hz : zeroOf P e = some z) (hzc : z.cellsOf = some zc) (hzl : zc.length = esz + 1)
    (hx : VR ρ x vx) (hy : VR ρ y vy) (hsrc : srcA s (esz + 1) y = some (n, ys)) (h : appTo s e (esz + 1) (bytesOf P e) x n ys = some (zx, s')) (hbz : bytesOf P e ≠ 0) :
    ∃ ρ' w' v, (Builtin.append_ #[tx, ty] t #[vx, vy]).run P w = .ok v w' ∧ Rel P base w0 ρ' s' w' ∧ Step ρ s w ρ' s' w' ∧ VR ρ' zx v := by
  obtain ⟨hl, yv, hyr, hyv, hysz⟩ := srcA_ok hr hy hsrc
  have hyl : ys.length = n * (esz + 1) := by rw [hyv.length]; simpa using hysz
  obtain ⟨-, yv', hyr', hyv', -⟩ := srcA_ok hr.drew hy hsrc
  obtain ⟨zv, hzr, hzv⟩ := run_zero (ρ := ρ) (w := w.drew) hz
  have hzs : zv.cells.size = esz + 1 := by have := (hzv.cells hzc).length; simp at this; omega
  have hpos := bytes_pos hbz
  unfold appTo at h
  split at h
  · rename_i hn
    obtain rfl := Nat.eq_of_beq_eq_true hn
    have hyv0 : yv.toList = [] := by
      have : yv.size = 0 := by simpa using hysz
      simpa using this
    have same : ∀ A len cap, len ≤ cap → vx = .slice A len cap → (Builtin.append_ #[tx, ty] t #[vx, vy]).run P w = .ok vx w := by
      intro A len cap hlc he
      subst he
      rw [append_room hux huy hs hl hyr (by omega), hyv0]
      cases A <;> rfl
    cases x <;> simp only [reduceCtorEq, Option.some.injEq, Prod.mk.injEq] at h <;> obtain ⟨rfl, rfl⟩ := h <;> refine ⟨ρ, w, vx, ?_, hr, Step.refl _ _ _, hx⟩
    · cases hx; exact same _ _ _ (Nat.le_refl _) rfl
    · cases hx; exact same _ _ _ (by assumption) rfl
    · cases hx; exact same _ _ _ (by assumption) rfl
    · cases hx; exact same _ _ _ (by assumption) rfl
    · cases hx; exact same _ _ _ (Nat.zero_le _) rfl
  · rename_i hn
    split at h
    · cases h
    · rename_i hsc
      have hrestsz : ∀ k, (Builtin.zeroCells zv.cells k).size = k * (esz + 1) := fun k => by rw [zeroCells_size, hzs]
      have h40 : ∀ m, m * bytesOf P e ≤ 2 ^ 40 → m < 2 ^ 63 := by
        intro m hm
        have : m * 1 ≤ m * bytesOf P e := Nat.mul_le_mul_left _ hpos
        have h4 : (2 : Nat) ^ 40 < 2 ^ 63 := by decide
        omega
      -- a new row
      have grow : ∀ (A : Option Addr) (len cap : Nat) (old : List AV) (ov : Array Value) (s1 : AS), cap < len + n → (len + n) * bytesOf P e ≤ 2 ^ 40 → vx = .slice A len cap →
          (Builtin.firstCells (esz + 1) len (.slice A len cap)).run P w.drew = .ok ov w.drew → VRL ρ old ov.toList → old.length = len * (esz + 1) → Rel P base w0 ρ s1 w.drew → Step ρ s w ρ s1 w.drew → s1.n = s.n →
          ∃ ρ' w' v, (Builtin.append_ #[tx, ty] t #[vx, vy]).run P w = .ok v w' ∧ Rel P base w0 ρ' (s1.new (.row e true (old ++ ys))) w' ∧ Step ρ s w ρ' (s1.new (.row e true (old ++ ys))) w' ∧ VR ρ' (.gslice s.n (len + n)) v := by
        intro A len cap old ov s1 hroom hbb he ho hov hol hr1 hst hsn
        subst he
        obtain ⟨newCap, hnc, hrun⟩ := append_grow (t := t) (ys := yv') hux huy hs hl (by
          obtain ⟨_, vs, h1, h2, _⟩ := srcA_ok hr.drew hy hsrc
          exact hyr') hroom ho hzr hbb (h40 _ hbb) hpos
        have hcs : (old ++ ys).length = (len + n) * (esz + 1) := by rw [List.length_append, hol, hyl, ← Nat.add_mul]
        obtain ⟨h1, h2⟩ := row_grown (w := w.drew) hr1 (os := ov) (ys := yv') (rest := Builtin.zeroCells zv.cells (newCap - (len + n))) hs (by rw [Array.toList_append]; exact hov.append hyv') hcs hnc (hrestsz _)
        refine ⟨_, _, _, hrun, h1, hst.trans h2, ?_⟩
        rw [← hsn]
        exact .gslice (c := w.heap.size) (by simp [Loc.add]) hnc
      -- room in a row
      have room : ∀ (b c k off len cap : Nat) (s1 : AS), len + n ≤ cap → vx = .slice (some ⟨c, off, none⟩) len cap → ρ b = some (c, k) → stN s (.ptr b (off + len * (esz + 1))) ys = some s1 →
          ∃ w', (Builtin.append_ #[tx, ty] t #[vx, vy]).run P w = .ok (.slice (some ⟨c, off, none⟩) (len + n) cap) w' ∧ Rel P base w0 ρ s1 w' ∧ Step ρ s w ρ s1 w' := by
        intro b c k off len cap s1 hroom he hc hst
        subst he
        obtain ⟨c', o', w', he, h1, h2, h3⟩ := hr.storeN (.ptr hc) hyv hst
        cases he
        refine ⟨w', ?_, h2, h3⟩
        rw [append_room hux huy hs hl hyr hroom]
        simp only [addr_add, h1, Result.andThen_ok]
      cases x <;> simp only [reduceCtorEq] at h
      · -- nilslice
        split at h
        · rename_i hble
          simp only [Option.some.injEq, Prod.mk.injEq] at h
          obtain ⟨rfl, rfl⟩ := h
          cases hx
          have hn' := Nat.ne_of_beq_eq_false hn
          have := grow none 0 0 [] #[] s (by omega) (by simpa using Nat.le_of_ble_eq_true hble) rfl (by simp [Builtin.firstCells]) .nil (by simp) hr.drew Step.drew rfl
          simpa using this
        · cases h
      · -- slice
        rename_i b off len cap
        generalize hxx : AV.slice b off len cap = xx at hx
        cases hx <;> first | (cases hxx; done) | skip
        rename_i b' c k off' len' cap' hc hle
        cases hxx
        split at h
        · rename_i hble
          have hroom := Nat.le_of_ble_eq_true hble
          split at h
          · cases h
          · rename_i s1 hst
            simp only [Option.some.injEq, Prod.mk.injEq] at h
            obtain ⟨rfl, rfl⟩ := h
            obtain ⟨w', h1, h2, h3⟩ := room b c k off len cap s1 hroom rfl hc hst
            exact ⟨ρ, w', _, h1, h2, h3, .slice hc hroom⟩
        · rename_i hble
          have hroom : cap < len + n := by
            apply Nat.lt_of_not_le
            intro hh
            rw [Nat.ble_eq_true_of_le hh] at hble
            cases hble
          split at h
          · cases h
          · rename_i hbb
            split at h
            · cases h
            · rename_i old hld
              split at h
              · cases h
              · simp only [Option.some.injEq, Prod.mk.injEq] at h
                obtain ⟨rfl, rfl⟩ := h
                obtain ⟨c', o', ov, he, h1, h2, h3, -⟩ := hr.drew.loadN (.ptr hc) hld
                cases he
                exact grow _ len cap old ov s hroom (Nat.le_of_ble_eq_true hbb) rfl (by simpa [Builtin.firstCells] using h1) h2 (by rw [h2.length]; simpa using h3) hr.drew Step.drew rfl
      · -- gslice
        rename_i b len
        generalize hxx : AV.gslice b len = xx at hx
        cases hx <;> first | (cases hxx; done) | skip
        rename_i b' c cap len' hc hle
        cases hxx
        split at h
        · rename_i e' cs hb
          split at h
          · cases h
          · rename_i hee
            obtain rfl := Nat.eq_of_beq_eq_true hee
            obtain ⟨hbase, vs, hv0, hvl, hrel, -, hg1⟩ := hr.row hb hc
            obtain ⟨m, hm, hvs⟩ := hg1 rfl
            rw [hs] at hm
            obtain rfl := Option.some.inj hm
            split at h
            · rename_i hcl
              have hcsl := Nat.eq_of_beq_eq_true hcl
              split at h
              · cases h
              · rename_i hbb
                simp only [Option.some.injEq, Prod.mk.injEq] at h
                obtain ⟨rfl, rfl⟩ := h
                by_cases hroom : len + n ≤ cap
                · -- in place
                  have hsz : len * (esz + 1) + yv.toList.length ≤ vs.size := by
                    rw [Array.length_toList, hysz, hvs, ← Nat.add_mul]
                    exact Nat.mul_le_mul_right _ hroom
                  have hst := run_storeCells_at P c (len * (esz + 1)) e' yv.toList 0 vs w hv0 (by simpa using hsz) (hyv.oneCell hsc)
                  have hlen2 : (vs.toList.take (len * (esz + 1) + 0) ++ yv.toList ++ vs.toList.drop (len * (esz + 1) + 0 + yv.toList.length)).length = vs.size := by
                    simp only [List.length_append, List.length_take, List.length_drop, Array.length_toList, Nat.add_zero] at hsz ⊢
                    omega
                  have hblk : RelBlk P (ρ.add s.n (c, cap)) (w.setRow c (vs.toList.take (len * (esz + 1) + 0) ++ yv.toList ++ vs.toList.drop (len * (esz + 1) + 0 + yv.toList.length)).toArray) c cap (.row e' true (cs ++ ys)) := by
                    refine ⟨_, setRow_heap _ _ _ _ _ _ hv0, ?_, ?_, (fun hh => by cases hh), fun _ => ⟨esz + 1, hs, ?_⟩⟩
                    · rw [List.size_toArray, hlen2, List.length_append, hcsl, hyl, hvs, ← Nat.add_mul]
                      exact Nat.mul_le_mul_right _ hroom
                    · have e1 : (cs ++ ys).length = len * (esz + 1) + yv.toList.length := by rw [List.length_append, hcsl, hyv.length]
                      have e2 : (vs.toList.take (len * (esz + 1)) ++ yv.toList).length = len * (esz + 1) + yv.toList.length := by
                        rw [List.length_append, List.length_take, Array.length_toList]; omega
                      simp only [Nat.add_zero]
                      rw [e1, List.take_append_of_le_length (Nat.le_of_eq e2.symm), List.take_of_length_le (Nat.le_of_eq e2)]
                      rw [hcsl] at hrel
                      exact (hrel.append hyv).mono (hr.ext_add _)
                    · rw [List.size_toArray, hlen2, hvs]
                  have hrg := hr.regrow hb hc (fun j hj => setRow_other _ _ _ _ hj) (by simp) (below_setRow hr.below hbase _) hblk
                  refine ⟨_, _, .slice (some ⟨c, 0, none⟩) (len + n) cap, ?_, hrg.1, hrg.2, .gslice (c := c) (by simp [Loc.add]) hroom⟩
                  rw [append_room hux huy hs hl hyr hroom]
                  simp only [addr_add, Nat.zero_add, hst, Result.andThen_ok]
                · -- a new row
                  obtain ⟨hk1, hk2⟩ := hr.drew.kill b
                  have hcell : ∀ (j : Nat) (v : Value), (vs.toList.take cs.length)[j]? = some v → w.drew.cell? ((⟨c, 0, none⟩ : Addr).add j) = some v := by
                    intro j v hj
                    rw [addr_add, Nat.zero_add]
                    show w.cell? _ = _
                    rw [List.getElem?_take] at hj
                    split at hj
                    · simp only [World.cell?, hv0]
                      simpa using hj
                    · cases hj
                  have hld := run_loadCells_list (P := P) w.drew ⟨c, 0, none⟩ (vs.toList.take cs.length) hcell
                  rw [← hrel.length, hcsl] at hld
                  exact grow _ len cap cs _ (s.put b none) (by omega) (Nat.le_of_ble_eq_true hbb) rfl (by simpa [Builtin.firstCells] using hld) (by simpa [hcsl] using hrel) hcsl hk1 (Step.drew.trans hk2) rfl
            · split at h
              · cases h
              · rename_i hbl
                split at h
                · cases h
                · rename_i s1 hst
                  simp only [Option.some.injEq, Prod.mk.injEq] at h
                  obtain ⟨rfl, rfl⟩ := h
                  have h1 := Nat.le_of_ble_eq_true hbl
                  have hroom : len + n ≤ cap := by
                    apply Nat.le_of_not_lt
                    intro hh
                    have h2 : (cap + 1) * (esz + 1) ≤ (len + n) * (esz + 1) := Nat.mul_le_mul_right _ hh
                    rw [Nat.succ_mul] at h2
                    omega
                  obtain ⟨w', h2, h3, h4⟩ := room b c cap 0 len cap s1 hroom rfl hc (by simpa using hst)
                  exact ⟨ρ, w', _, h2, h3, h4, .gslice hc hroom⟩
        · cases h
end
end Go.Ex
/-! # make, clear, len, max, min, bytes to string, index of a byte, maps -/
namespace Go.Ex
open Go.RowKit

section
variable {P : Program} {base : Nat} {w0 w : World} {ρ : Loc} {s : AS} {fr : Frm} {a : Act}

theorem pickA_ok (hf : FR ρ fr a.tmps) {o : Oper} {c x y : Operand} {z : AV} (ho : o.op = .pick c x y) (h : pickA (ev fr c) (ev fr x) (ev fr y) = some z) : ∃ u, (execOp a.eval o).run P w = .ok (.value u) w ∧ VR ρ z u := by
  have hc := hf.ev c
  unfold pickA at h
  split at h
  · rename_i he
    cases h
    rw [he] at hc
    exact ⟨_, by simp [execOp, ho, hc.bool_inv, asBool], hf.ev x⟩
  · rename_i he
    cases h
    rw [he] at hc
    exact ⟨_, by simp [execOp, ho, hc.bool_inv, asBool], hf.ev y⟩
  · cases h

theorem lenS_ok {t ty : TypeId} {x y : AV} {v : Value} (hu : P.underlying t = some .string) (hx : VR ρ x v) (h : lenS x = some y) : ∃ r, (Builtin.len_ #[t] ty #[v]).run P w = .ok r w ∧ VR ρ y r := by
  unfold lenS at h
  split at h
  · cases h
    obtain ⟨s, rfl, rfl⟩ := hx.str_inv
    exact ⟨goInt s.size, by simp [Builtin.len_, run_underlying hu], by rw [slen_enc, size_list]; exact .int _ _⟩
  · cases h
theorem lenL_ok {t ty e : TypeId} {x y : AV} {v : Value} (hu : P.underlying t = some (.slice e)) (hx : VR ρ x v) (h : lenL x = some y) : ∃ r, (Builtin.len_ #[t] ty #[v]).run P w = .ok r w ∧ VR ρ y r := by
  unfold lenL at h
  split at h <;> first | (cases h; done) | skip
  all_goals
    cases h
    cases hx
    exact ⟨goInt _, by simp [Builtin.len_, run_underlying hu], .int _ _⟩
theorem maxA_ok {ts : Array TypeId} {t : TypeId} {x y z : AV} {v u : Value} (hx : VR ρ x v) (hy : VR ρ y u) (h : maxA x y = some z) : ∃ r, (Builtin.max_ ts t #[v, u]).run P w = .ok r w ∧ VR ρ z r := by
  unfold maxA at h
  split at h
  · obtain rfl := hx.int_inv
    obtain rfl := hy.int_inv
    split at h
    · cases h
      exact ⟨_, by simp [Builtin.max_, Builtin.max2], .int _ _⟩
    · cases h
  · cases h
theorem maxL_ok : ∀ {ys : List AV} {us : List Value} {x z : AV} {v : Value}, VR ρ x v → VRL ρ ys us → maxL x ys = some z → ∃ r, (us.foldlM Builtin.max2 v).run P w = .ok r w ∧ VR ρ z r
  | [], _, x, z, v, hx, hy, h => by
    cases hy
    simp only [maxL, Option.some.injEq] at h
    subst h
    exact ⟨v, by simp, hx⟩
  | y :: ys, _, x, z, v, hx, hy, h => by
    cases hy with
    | cons hy ht =>
      simp only [maxL] at h
      split at h
      · cases h
      · rename_i m hm
        unfold maxA at hm
        split at hm
        · obtain rfl := hx.int_inv
          obtain rfl := hy.int_inv
          split at hm
          · cases hm
            obtain ⟨r, h1, h2⟩ := maxL_ok (.int _ _) ht h
            refine ⟨r, ?_, h2⟩
            rw [List.foldlM_cons, Sem.run_bind]
            simp only [Builtin.max2, Sem.run_pure, Result.andThen_ok]
            exact h1
          · cases hm
        · cases hm
theorem minA_ok {ts : Array TypeId} {t : TypeId} {x y z : AV} {v u : Value} (hx : VR ρ x v) (hy : VR ρ y u) (h : minA x y = some z) : ∃ r, (Builtin.min_ ts t #[v, u]).run P w = .ok r w ∧ VR ρ z r := by
  unfold minA at h
  split at h
  · obtain rfl := hx.int_inv
    obtain rfl := hy.int_inv
    split at h
    · cases h
      exact ⟨_, by simp [Builtin.min_, Builtin.min2], .int _ _⟩
    · cases h
  · cases h

/-! bytes to a string -/
theorem encA_ok {cs : List AV} {vs : List Value} {n : Nat} (h : VRL ρ cs vs) (he : encA cs = some n) :
    ∃ l : List UInt8, n = enc l ∧ vs = l.map fun b => .int .u8 b.toNat := by
  induction cs generalizing vs n with
  | nil => cases h; simp [encA] at he; exact ⟨[], by simp [enc, he], rfl⟩
  | cons c cs ih =>
    cases h with
    | cons hc ht =>
      cases c <;> try (simp [encA] at he; done)
      rename_i k b
      cases k <;> try (simp [encA] at he; done)
      simp only [encA] at he
      split at he
      · rename_i m h1 h2
        cases he
        simp only [Bool.and_eq_true, decide_eq_true_eq] at h1
        obtain ⟨l, rfl, rfl⟩ := ih ht h2
        refine ⟨UInt8.ofNat b.toNat :: l, ?_, ?_⟩
        · simp only [enc]
          congr 1
          simp; omega
        · obtain rfl := hc.int_inv
          simp only [List.map_cons]
          congr 2
          simp; omega
      · cases he
theorem foldl_push (l : List UInt8) : ∀ (acc : ByteArray), ((l.map fun b : UInt8 => (b.toNat : Int)).foldl (fun (r : ByteArray) n => r.push (UInt8.ofNat n.toNat)) acc).data.toList = acc.data.toList ++ l := by
  induction l with
  | nil => intro acc; simp
  | cons b l ih =>
    intro acc
    simp only [List.map_cons, List.foldl_cons]
    rw [ih]
    simp [ByteArray.push]
theorem cvtB_ok (hr : Rel P base w0 ρ s w) {src dst e : TypeId} {x y : AV} {v : Value} (hs : P.underlying src = some (.slice e)) (he : P.underlying e = some (.int .u8)) (hd : P.underlying dst = some .string)
    (hx : VR ρ x v) (h : cvtB s x = some y) : ∃ r, (convert src dst v).run P w = .ok r w ∧ VR ρ y r := by
  have key : ∀ {p : AV} {c o len cap : Nat} {cs : List AV} {n : Nat}, VR ρ p (.pointer (some ⟨c, o, none⟩)) → ldN s p len = some cs → encA cs = some n →
      ∃ r, (convert src dst (.slice (some ⟨c, o, none⟩) len cap)).run P w = .ok r w ∧ VR ρ (.str n) r := by
    intro p c o len cap cs n hp hl hen
    obtain ⟨c', o', vs, hv, h1, h2, h3, -⟩ := hr.loadN hp hl
    cases hv
    obtain ⟨l, rfl, hvs⟩ := encA_ok h2 hen
    have h4 : vs = ((l.map fun b : UInt8 => (b.toNat : Int)).map (Value.int .u8)).toArray := by
      apply Array.ext'
      rw [hvs]
      simp
    rw [h4] at h1
    refine ⟨_, by rw [run_convert_bytes_string w src dst e _ _ _ hs he hd]; exact run_bytesToString w _ _ _ _ h1, ?_⟩
    have h5 := foldl_push l ByteArray.empty
    have h6 : l = ((l.map fun b : UInt8 => (b.toNat : Int)).foldl (fun (r : ByteArray) n => r.push (UInt8.ofNat n.toNat)) ByteArray.empty).data.toList := by
      rw [h5]; rfl
    conv => lhs; rw [h6]
    exact .str _
  unfold cvtB at h
  split at h
  · cases h
    cases hx
    exact ⟨_, by rw [run_convert_bytes_string w src dst e _ _ _ hs he hd]; rfl, .str ByteArray.empty⟩
  · split at h
    · cases h
    · rename_i p len hsl
      split at h
      · cases h
      · rename_i cs hl
        split at h
        · cases h
        · rename_i n hen
          cases h
          cases x <;> simp only [slAt, Option.some.injEq, reduceCtorEq, Prod.mk.injEq] at hsl <;> obtain ⟨rfl, rfl⟩ := hsl <;> cases hx <;> exact key (.ptr (by assumption)) hl hen

/-! where a byte stands -/
theorem idxFrom_ok (s : ByteArray) (c : Nat) (u : UInt8) (hu : u.toNat = c) : ∀ (d i : Nat), i + d = s.size → idxByteFrom d (enc s.data.toList) c i =
    match ((List.range' i d).find? fun j => s[j]! == u) with | some j => (j : Int) | none => -1 := by
  intro d
  induction d with
  | zero => intro i _; simp [idxByteFrom]
  | succ d ih =>
    intro i hi
    have hlt : i < s.size := by omega
    have hg : s.data.toList[i]? = some s[i] := by
      rw [List.getElem?_eq_getElem (by rw [size_list]; exact hlt)]
      rfl
    have hb : s[i]! = s[i] := by simp [getElem!_pos, hlt]
    simp only [idxByteFrom, sbyte_enc _ _ _ hg, List.range'_succ, List.find?_cons, hb]
    by_cases e : s[i] = u
    · have h1 : Nat.beq s[i].toNat c = true := by rw [e, hu]; exact Nat.beq_refl _
      have h2 : (s[i] == u) = true := by simpa using e
      rw [h1, h2]
    · have h1 : Nat.beq s[i].toNat c = false := by
        cases hq : Nat.beq s[i].toNat c with
        | false => rfl
        | true => exact absurd (UInt8.toNat_inj.1 ((Nat.eq_of_beq_eq_true hq).trans hu.symm)) e
      have h2 : (s[i] == u) = false := by simpa using e
      rw [h1, h2]
      exact ih (i + 1) (by omega)

theorem idxByteA_ok {x c y : AV} {v u : Value} (hx : VR ρ x v) (hc : VR ρ c u) (h : idxByteA x c = some y) : ∃ r, (Extern.BytealgIndexByte.indexByte #[v, u]).run P w = .ok r w ∧ VR ρ y r := by
  unfold idxByteA at h
  split at h
  · obtain ⟨s, rfl, rfl⟩ := hx.str_inv
    obtain rfl := hc.int_inv
    split at h
    · rename_i b _ hb
      cases h
      simp only [Bool.and_eq_true, decide_eq_true_eq] at hb
      refine ⟨_, run_indexByte_string s b w, ?_⟩
      have h1 := idxFrom_ok s b.toNat b.toNat.toUInt8 (by simp; omega) s.size 0 (by omega)
      rw [slen_enc, size_list, h1, ← List.range_eq_range']
      exact .int _ _
    · cases h
  · cases h
end
end Go.Ex
/-! # make, clear, maps -/
namespace Go.Ex
open Go.RowKit

section
variable {P : Program} {base : Nat} {w0 w : World} {ρ : Loc} {s : AS} {fr : Frm} {a : Act}

theorem makeS_ok (hr : Rel P base w0 ρ s w) {t e : TypeId} {esz : Nat} {z : AV} {zc : List AV} {l c y : AV} {lv cv : Value} {s' : AS} (hu : P.underlying t = some (.slice e)) (hs : szOf P e = some esz)
    (hz : zeroOf P e = some z) (hzc : z.cellsOf = some zc) (hl : VR ρ l lv) (hc : VR ρ c cv) (h : makeS s e esz (bytesOf P e) zc l c = some (y, s')) :
    ∃ ρ' w' v, (Instr.makeSlice t lv cv).run P w = .ok v w' ∧ Rel P base w0 ρ' s' w' ∧ Step ρ s w ρ' s' w' ∧ VR ρ' y v := by
  obtain ⟨zv, hzr, hzv⟩ := run_zero (ρ := ρ) (w := w) hz
  obtain ⟨i, hi⟩ := szOf_info hs
  unfold makeS at h
  split at h
  · rename_i l c
    obtain rfl := hl.int_inv
    obtain rfl := hc.int_inv
    split at h
    · rename_i hb
      cases h
      simp only [Bool.and_eq_true, decide_eq_true_eq] at hb
      obtain ⟨⟨⟨⟨⟨hb1, hb0⟩, hb2⟩, hb3⟩, hb4⟩, hb5⟩ := hb
      have hb1 := Nat.le_of_ble_eq_true hb1
      have hb0 := Nat.le_of_ble_eq_true hb0
      have hzl := Nat.eq_of_beq_eq_true hb5
      have hbi : bytesOf P e = i.bytes := by simp [bytesOf, hi]
      rw [hbi] at hb1
      have hzs : zv.cells.size = esz := by have := (hzv.cells hzc).length; simp at this; omega
      have h40 : (2 : Nat) ^ 40 = 1099511627776 := by decide
      have hwl : IntKind.i64.wrap l = l := IntWalk.i64_in l (by omega)
      have hwc : IntKind.i64.wrap c = c := IntWalk.i64_in c (by omega)
      have hc0 : ((c.toNat : Nat) : Int) = c := Int.toNat_of_nonneg (by omega)
      have h1 : ¬ ((i.bytes : Int) * c > 2 ^ 48) := by
        rw [← hc0, ← Int.natCast_mul, Nat.mul_comm]
        have : (2 : Int) ^ 48 = ((281474976710656 : Nat) : Int) := by decide
        rw [this]
        omega
      have h2 : ¬ c < 0 := by omega
      have h3 : ¬ l < 0 := by omega
      have h4 : ¬ l > c := by omega
      have h0 : VRL ρ (rep c.toNat zc) (((Array.range (c.toNat * esz)).map fun i => zv.cells[i % zv.cells.size]!)).toList := by
        rw [← hzs, zeros_eq]
        exact (hzv.cells hzc).flatten_rep _
      obtain ⟨h5, h6⟩ := hr.newCells (e := e) h0
      refine ⟨_, _, .slice (some ⟨w.heap.size, 0, none⟩) l.toNat c.toNat, ?_, h5, h6, .slice (c := w.heap.size) (k := 0) (by simp [Loc.add]) (by omega)⟩
      simp only [Instr.makeSlice, Sem.run_bind, run_underlying hu, Result.andThen_ok, asInt, asIntOf, Sem.run_pure, run_info hi, hwl, hwc]
      rw [if_neg (by simp only [Bool.or_eq_true, decide_eq_true_eq]; rintro (((h | h) | h) | h) <;> contradiction)]
      simp only [Sem.run_bind, run_askRoom, Result.andThen_ok, run_size hs, Sem.run_ite]
      split
      · rename_i hz0
        have he : ((Array.range (c.toNat * esz)).map fun x => (#[] : Array Value)[x % (#[] : Array Value).size]!) = ((Array.range (c.toNat * esz)).map fun i => zv.cells[i % zv.cells.size]!) := by simp [hz0]
        simp only [Sem.run_bind, Sem.run_pure, Result.andThen_ok, he, Go.newRow, run_newObj_alloc]
      · simp only [Sem.run_bind, Sem.run_pure, Result.andThen_ok, hzr, Go.newRow, run_newObj_alloc]
    · cases h
  · cases h

theorem clearA_ok (hr : Rel P base w0 ρ s w) {t e ty : TypeId} {esz : Nat} {z : AV} {zc : List AV} {x y : AV} {v : Value} {s' : AS} (hu : P.underlying t = some (.slice e)) (hs : szOf P e = some esz)
    (hz : zeroOf P e = some z) (hzc : z.cellsOf = some zc) (hx : VR ρ x v) (h : clearA s esz zc x = some (y, s')) :
    ∃ ρ' w' u, (Builtin.clear_ #[t] ty #[v]).run P w = .ok u w' ∧ Rel P base w0 ρ' s' w' ∧ Step ρ s w ρ' s' w' ∧ VR ρ' y u := by
  obtain ⟨zv, hzr, hzv⟩ := run_zero (ρ := ρ) (w := w) hz
  have hzs : zv.cells.size = zc.length := by have := (hzv.cells hzc).length; simp at this; omega
  have unit : VR ρ (.tup []) (.tuple #[]) := .tup .nil
  have none_ : ∀ A cap, (Builtin.clear_ #[t] ty #[.slice A 0 cap]).run P w = .ok (.tuple #[]) w := by
    intro A cap
    cases A <;> simp [Builtin.clear_, run_underlying hu]
  unfold clearA at h
  split at h
  · cases h; cases hx; exact ⟨ρ, w, _, none_ _ _, hr, Step.refl _ _ _, unit⟩
  · cases h; cases hx; exact ⟨ρ, w, _, none_ _ _, hr, Step.refl _ _ _, unit⟩
  · split at h
    · cases h
    · rename_i p len hsl
      have key : ∀ {c o cap : Nat}, VR ρ p (.pointer (some ⟨c, o, none⟩)) → v = .slice (some ⟨c, o, none⟩) len cap →
          ∃ ρ' w' u, (Builtin.clear_ #[t] ty #[v]).run P w = .ok u w' ∧ Rel P base w0 ρ' s' w' ∧ Step ρ s w ρ' s' w' ∧ VR ρ' y u := by
        intro c o cap hp hv
        subst hv
        split at h
        · rename_i hb
          cases h
          have := Nat.eq_of_beq_eq_true hb
          subst this
          exact ⟨ρ, w, _, none_ _ _, hr, Step.refl _ _ _, unit⟩
        · rename_i hb
          have hne := Nat.ne_of_beq_eq_false hb
          split at h
          · cases h
          · split at h
            · cases h
            · rename_i s1 hst
              cases h
              have h0 : VRL ρ (rep len zc) (Builtin.zeroCells zv.cells len).toList := by
                unfold Builtin.zeroCells
                rw [zeros_eq]
                exact (hzv.cells hzc).flatten_rep len
              obtain ⟨c', o', w', he, h1, h2, h3⟩ := hr.storeN hp h0 hst
              cases he
              obtain ⟨len, rfl⟩ : ∃ m, len = m + 1 := ⟨len - 1, by omega⟩
              exact ⟨ρ, w', .tuple #[], by simp [Builtin.clear_, run_underlying hu, hzr, h1], h2, h3, .tup .nil⟩
      cases x <;> simp only [slAt, Option.some.injEq, reduceCtorEq, Prod.mk.injEq] at hsl <;> obtain ⟨rfl, rfl⟩ := hsl <;> cases hx <;> exact key (.ptr (by assumption)) rfl

/-! maps -/
def kindOf : KK → TypeDesc → Bool
  | .int, .int _ => true
  | .str, .string => true
  | .bool, .bool => true
  | _, _ => false
theorem same_ok {K : KK} {d : TypeDesc} {k k' : AV} {v v' : Value} {b : Bool} (hd : kindOf K d = true) (hk : isKeyOf K k = true) (h1 : VR ρ k v) (h2 : VR ρ k' v') (h : keyEq k k' = some b) :
    Instr.sameNow d v v' = some b ∧ (b = true → ∀ n, Instr.sameBits (n + 1) v' v = true) := by
  unfold keyEq at h
  split at h
  · obtain ⟨x, rfl, rfl⟩ := h1.str_inv
    obtain ⟨y, rfl, rfl⟩ := h2.str_inv
    cases K <;> simp only [isKeyOf, reduceCtorEq] at hk
    cases d <;> simp only [kindOf, reduceCtorEq] at hd
    cases h
    rw [beq_enc]
    have e : (x == y) = (x.data.toList == y.data.toList) := by
      show (x.data == y.data) = _
      by_cases hxy : x.data = y.data
      · rw [hxy]; simp
      · have : x.data.toList ≠ y.data.toList := fun e => hxy (Array.ext' e)
        simp [hxy, this]
    refine ⟨by simp [Instr.sameNow, e], fun hb n => ?_⟩
    rw [← e] at hb
    have hb' : (y == x) = true := by
      have h3 : (x.data == y.data) = true := hb
      show (y.data == x.data) = true
      rw [eq_of_beq h3]
      simp
    simp [Instr.sameBits, hb']
  · obtain rfl := h1.bool_inv
    obtain rfl := h2.bool_inv
    cases K <;> simp only [isKeyOf, reduceCtorEq] at hk
    cases d <;> simp only [kindOf, reduceCtorEq] at hd
    cases h
    exact ⟨rfl, fun hb n => by have := eq_of_beq hb; subst this; simp [Instr.sameBits]⟩
  · split at h
    · rename_i hj
      simp only [decide_eq_true_eq] at hj
      subst hj
      obtain rfl := h1.int_inv
      obtain rfl := h2.int_inv
      cases K <;> simp only [isKeyOf, reduceCtorEq] at hk
      cases d <;> simp only [kindOf, reduceCtorEq] at hd
      cases h
      refine ⟨by simp [Instr.sameNow]; rfl, fun hb n => ?_⟩
      simp only [decide_eq_true_eq] at hb
      subst hb
      simp [Instr.sameBits]
    · cases h
  · cases h

theorem find_ok {K : KK} {d : TypeDesc} {k : AV} {kv : Value} (hd : kindOf K d = true) (hk : isKeyOf K k = true) (hkv : VR ρ k kv) :
    ∀ (es : List (AV × AV)) (ents : List MapEntry) (i : Nat) (r : Option AV), VRL ρ (es.map (·.1)) (ents.map (·.key)) → VRL ρ (es.map (·.2)) (ents.map (·.val)) → mfind k es = some r →
      (r = none ∧ Instr.findNow d kv ents i = some none ∧ ∀ v, mput k v es = some (es ++ [(k, v)])) ∨
      (∃ v j ent, r = some v ∧ ents[j]? = some ent ∧ j < es.length ∧ Instr.findNow d kv ents i = some (some (i + j, ent.val)) ∧ VR ρ v ent.val ∧ (∀ n, Instr.sameBits (n + 1) ent.key kv = true) ∧ ∀ v', mput k v' es = some (es.set j (k, v')))
  | [], ents, i, r, h1, _, h => by
    cases ents with
    | nil =>
      simp only [mfind, Option.some.injEq] at h
      exact .inl ⟨h.symm, rfl, fun _ => rfl⟩
    | cons e ents => cases h1
  | (k', v') :: es, ents, i, r, h1, h2, h => by
    cases ents with
    | nil => cases h1
    | cons e ents =>
      cases h1 with
      | cons hk' h1 =>
        cases h2 with
        | cons hv' h2 =>
          simp only [mfind] at h
          cases hq : keyEq k k' with
          | none => rw [hq] at h; simp at h
          | some b =>
            obtain ⟨hs1, hs2⟩ := same_ok hd hk hkv hk' hq
            rw [hq] at h
            cases b with
            | true =>
              simp only [Option.some.injEq] at h
              subst h
              exact .inr ⟨v', 0, e, rfl, rfl, by simp, by simp [Instr.findNow, hs1], hv', hs2 rfl, fun v'' => by simp [mput, hq]⟩
            | false =>
              simp only at h
              rcases find_ok hd hk hkv es ents (i + 1) r h1 h2 h with ⟨h3, h4, h5⟩ | ⟨v, j, ent, h3, h4, h5, h6, h7, h8, h9⟩
              · exact .inl ⟨h3, by simp [Instr.findNow, hs1, h4], fun v => by simp [mput, hq, h5]⟩
              · refine .inr ⟨v, j + 1, ent, h3, by simpa using h4, by simp; omega, ?_, h7, h8, fun v'' => by simp [mput, hq, h9]⟩
                simp only [Instr.findNow, hs1, h6]
                congr 3
                omega

theorem run_checkKey {K : KK} {kt : TypeId} {d : TypeDesc} (hd : P.underlying kt = some d) (hk : kindOf K d = true) (e : Bool) (n : Nat) (v : Value) (h : ∀ t x, v ≠ .iface t x) : (Instr.checkKey e (n + 1) kt v).run P w = .ok () w := by
  cases K <;> cases d <;> simp only [kindOf, reduceCtorEq] at hk <;> simp [Instr.checkKey, run_underlying hd]
theorem key_plain {K : KK} {k : AV} {v : Value} (hk : isKeyOf K k = true) (h : VR ρ k v) : ∀ t x, v ≠ .iface t x := by
  intro t x e
  subst e
  cases h with
  | poison => cases K <;> simp [isKeyOf] at hk
  | iface h => cases K <;> simp [isKeyOf] at hk

theorem two_ok (ok : Bool) {a : AV} {u : Value} (b : Bool) (ha : VR ρ a u) : VR ρ (match ok with | true => .tup [a, .bool b] | false => a) (if ok = true then .tuple #[u, .bool b] else u) := by
  cases ok
  · exact ha
  · exact .tup (.cons ha (.cons (.bool b) .nil))
theorem lookA_ok (hr : Rel P base w0 ρ s w) {t kt e : TypeId} {K : KK} {d : TypeDesc} {z m k y : AV} {ok : Bool} {mv kv : Value} (hu : P.underlying t = some (.map kt e)) (hd : P.underlying kt = some d) (hK : kindOf K d = true)
    (hz : zeroOf P e = some z) (hm : VR ρ m mv) (hk : VR ρ k kv) (h : lookA s K z ok m k = some y) : ∃ r, (Instr.lookup t mv kv ok).run P w = .ok r w ∧ VR ρ y r := by
  obtain ⟨zv, hzr, hzv⟩ := run_zero (ρ := ρ) (w := w) hz
  unfold lookA at h
  split at h
  · cases h
  · rename_i hkk
    have hck := fun e => run_checkKey (w := w) hd hK e 9999 kv (key_plain hkk hk)
    cases m with
    | nilmap =>
      cases h
      cases hm
      refine ⟨_, ?_, two_ok ok false hzv⟩
      simp only [Instr.lookup, Sem.run_bind, run_underlying hu, Result.andThen_ok, Sem.run_pure]
      rw [show (10000 : Nat) = 9999 + 1 from rfl, hck]
      simp [Instr.findKey, run_underlying hd, Instr.findNow, hzr]
    | map b =>
      simp only at h
      cases hm with
      | map hc =>
        rename_i c q
        split at h
        · rename_i es hb
          obtain ⟨c', k', h1, h2, ents, clock, h3, h4, h5, h6⟩ := hr.live b _ hb
          rw [hc] at h1; cases h1
          have hget : (getObj c).run P w = .ok (.map ents clock) w := by simp [getObj, Sem.run, h3]
          split at h
          · cases h
          · rename_i hmf
            cases h
            rcases find_ok hK hkk hk es ents.toList 0 none h4 h5 hmf with ⟨-, hfn, -⟩ | ⟨v, j, ent, he, -⟩
            · refine ⟨_, ?_, two_ok ok false hzv⟩
              simp only [Instr.lookup, Sem.run_bind, run_underlying hu, Result.andThen_ok, hget, Sem.run_pure]
              rw [show (10000 : Nat) = 9999 + 1 from rfl, hck]
              simp [Instr.findKey, run_underlying hd, hfn, hzr]
            · cases he
          · rename_i v hmf
            cases h
            rcases find_ok hK hkk hk es ents.toList 0 (some v) h4 h5 hmf with ⟨he, -⟩ | ⟨v', j, ent, he, hj, -, hfn, hv, -⟩
            · cases he
            · cases he
              refine ⟨_, ?_, two_ok ok true hv⟩
              simp only [Instr.lookup, Sem.run_bind, run_underlying hu, Result.andThen_ok, hget, Sem.run_pure]
              rw [show (10000 : Nat) = 9999 + 1 from rfl, hck]
              simp [Instr.findKey, run_underlying hd, hfn]
        · cases h
    | _ => simp at h

theorem mkMap_ok (hr : Rel P base w0 ρ s w) {t : TypeId} {y : AV} {s' : AS} (h : mkMap s = some (y, s')) :
    ∃ ρ' w' v, (Instr.makeMap t none).run P w = .ok v w' ∧ Rel P base w0 ρ' s' w' ∧ Step ρ s w ρ' s' w' ∧ VR ρ' y v := by
  cases h
  have := hr.new (o := .map #[] 0) (x := .map []) 0 ⟨#[], 0, heap_alloc_at w _, .nil, .nil, rfl⟩
  exact ⟨_, _, .map (some w.heap.size), by simp [Instr.makeMap], this.1, this.2, .map (c := w.heap.size) (k := 0) (by simp [Loc.add])⟩

theorem all_keys {es : List (AV × AV)} (h : es.all (fun e => isKey e.1) = true) {K : KK} {k v : AV} (hk : isKeyOf K k = true) (j : Nat) : (es.set j (k, v)).all (fun e => isKey e.1) = true ∧ (es ++ [(k, v)]).all (fun e => isKey e.1) = true := by
  have hk' : isKey k = true := by cases K <;> cases k <;> simp_all [isKeyOf, isKey]
  constructor
  · rw [List.all_eq_true] at h ⊢
    intro e he
    rcases List.mem_or_eq_of_mem_set he with h1 | h1
    · exact h e h1
    · subst h1; exact hk'
  · simp [h, hk']

theorem modify_map {β : Type} (ents : Array MapEntry) (j : Nat) (hj : j < ents.size) (g : MapEntry → MapEntry) (f : MapEntry → β) (u : β) (hu : ∀ e, f (g e) = u) : ((ents.modify (0 + j) g).toList.map f) = (ents.toList.map f).set j u := by
  apply List.ext_getElem?
  intro i
  simp only [List.getElem?_map, Array.getElem?_toList, Array.getElem?_modify, List.getElem?_set, List.length_map, Array.length_toList, Nat.zero_add]
  by_cases h : j = i
  · subst h
    simp [hj, hu]
  · rw [if_neg h, if_neg h]

theorem mapUpd_ok (hr : Rel P base w0 ρ s w) {t kt e : TypeId} {K : KK} {d : TypeDesc} {m k v y : AV} {mv kv vv : Value} {s' : AS} (hu : P.underlying t = some (.map kt e)) (hd : P.underlying kt = some d) (hK : kindOf K d = true)
    (hm : VR ρ m mv) (hk : VR ρ k kv) (hv : VR ρ v vv) (h : mapUpd s K m k v = some (y, s')) : ∃ w', (Instr.mapUpdate t mv kv vv).run P w = .ok () w' ∧ Rel P base w0 ρ s' w' ∧ Step ρ s w ρ s' w' ∧ y = .poison := by
  unfold mapUpd at h
  split at h
  · cases h
  · rename_i hkk
    have hck := fun e => run_checkKey (w := w) hd hK e 9999 kv (key_plain hkk hk)
    split at h
    · rename_i b
      cases hm with
      | map hc =>
        rename_i c q
        split at h
        · rename_i es hb
          obtain ⟨c', k', h1, h2, ents, clock, h3, h4, h5, h6⟩ := hr.live b _ hb
          rw [hc] at h1; cases h1
          have hget : (getObj c).run P w = .ok (.map ents clock) w := by simp [getObj, Sem.run, h3]
          have hset : ∀ o, (setObj c o).run P w = .ok () { w with heap := w.heap.setIfInBounds c o } := by intro o; simp [setObj, Sem.run, h3]
          have hlt : c < w.heap.size := hr.bound b c q hc
          split at h
          · cases h
          · rename_i es' hput
            cases h
            have hmf : ∃ r, mfind k es = some r := by
              clear h3 h4 h5 h6 hget hb
              induction es generalizing es' with
              | nil => exact ⟨none, rfl⟩
              | cons e es ih =>
                obtain ⟨k1, v1⟩ := e
                simp only [mput] at hput
                simp only [mfind]
                split at hput
                · cases hput
                · exact ⟨_, rfl⟩
                · split at hput
                  · cases hput
                  · rename_i r hr'
                    exact ih _ hr'
            obtain ⟨r, hmf⟩ := hmf
            have wr : ∀ (o : Obj) (x' : Blk), RelBlk P ρ { w with heap := w.heap.setIfInBounds c o } c q x' → Rel P base w0 ρ (s.put b (some x')) { w with heap := w.heap.setIfInBounds c o } ∧ Step ρ s w ρ (s.put b (some x')) { w with heap := w.heap.setIfInBounds c o } := by
              intro o x' hx
              refine hr.write hb hc (fun j hj => ?_) (by simp) ⟨hr.below.os, hr.below.tape, hr.below.output, by simpa using hr.below.size, fun j hj => ?_⟩ hx
              · simp only [Array.getElem?_setIfInBounds]; rw [if_neg (Ne.symm hj)]
              · simp only [Array.getElem?_setIfInBounds]; rw [if_neg (by omega)]; exact hr.below.block j hj
            have at_ : ∀ o : Obj, (w.heap.setIfInBounds c o)[c]? = some o := by intro o; simp [hlt]
            rcases find_ok hK hkk hk es ents.toList 0 r h4 h5 hmf with ⟨-, hfn, hp⟩ | ⟨v', j, ent, -, hj, hjl, hfn, -, hsb, hp⟩
            · rw [hp v] at hput
              cases hput
              have hw := wr (.map (ents.push { key := kv, val := vv, born := clock }) (clock + 1)) (.map (es ++ [(k, v)])) ⟨_, _, at_ _, by simpa using h4.append (.cons hk .nil), by simpa using h5.append (.cons hv .nil), (all_keys h6 hkk 0).2⟩
              refine ⟨_, ?_, hw.1, hw.2, rfl⟩
              simp only [Instr.mapUpdate, Sem.run_bind, run_underlying hu, Result.andThen_ok, hget]
              rw [show (10000 : Nat) = 9999 + 1 from rfl, hck]
              simp [Instr.findKey, run_underlying hd, hfn, hset]
            · rw [hp v] at hput
              cases hput
              have hjs : j < ents.size := by
                have := (List.getElem?_eq_some_iff.1 hj).1
                simpa using this
              have setL : ∀ {α : Type} (f : MapEntry → Value) (g : AV × AV → AV) (x : AV) (u : Value), VRL ρ (es.map g) (ents.toList.map f) → VR ρ x u → VRL ρ ((es.map g).set j x) ((ents.toList.map f).set j u) := by
                intro _ f g x u h1 h2
                refine VRL.of_get (by simpa using h1.length) (fun i y z hy hz => ?_)
                rw [List.getElem?_set] at hy hz
                split at hy
                · rename_i e
                  subst e
                  rw [if_pos rfl] at hz
                  split at hy
                  · split at hz
                    · cases hy; cases hz; exact h2
                    · cases hz
                  · cases hy
                · rename_i e
                  rw [if_neg e] at hz
                  obtain ⟨z', hz', hr'⟩ := h1.get hy
                  rw [hz] at hz'
                  cases hz'
                  exact hr'
              have hw := wr (.map (ents.modify (0 + j) fun e => { e with key := kv, val := vv }) clock) (.map (es.set j (k, v))) ⟨_, _, at_ _, by
                  have h7 := setL (α := Unit) (·.key) (·.1) k kv h4 hk
                  rw [modify_map ents j hjs _ _ kv (fun _ => rfl)]
                  rw [List.map_set]
                  exact h7, by
                  have h7 := setL (α := Unit) (·.val) (·.2) v vv h5 hv
                  rw [modify_map ents j hjs _ _ vv (fun _ => rfl)]
                  rw [List.map_set]
                  exact h7, (all_keys h6 hkk j).1⟩
              refine ⟨_, ?_, hw.1, hw.2, rfl⟩
              have hks : (Instr.keyThatStays ent.key kv).run P w = .ok kv w := by simp [Instr.keyThatStays, hsb 9999]
              simp only [Instr.mapUpdate, Sem.run_bind, run_underlying hu, Result.andThen_ok, hget]
              rw [show (10000 : Nat) = 9999 + 1 from rfl, hck]
              simp only [Result.andThen_ok, Instr.findKey, Sem.run_bind, run_underlying hd, hfn, Sem.run_pure]
              have he : (ents[0 + j]?).map (·.key) = some ent.key := by
                have : ents[0 + j]? = some ent := by simpa using hj
                rw [this]; rfl
              simp only [he, Option.getD_some, hks, Result.andThen_ok, hset]
        · cases h
    · cases h
end
end Go.Ex
