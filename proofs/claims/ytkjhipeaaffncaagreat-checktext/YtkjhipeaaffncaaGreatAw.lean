/-
  Part of the proof of: The call of CheckText (libevolutionlaw07) returns true at every input.
  No condition: every input.
-/
import Derived.Test.YtkjhipeaaffncaaGreatSnd
set_option linter.unusedVariables false
set_option linter.unusedSimpArgs false
open Go Go.Ex Go.Proofs Go.RowKit
namespace Go.Ex.B
set_option maxRecDepth 100000
theorem aw_run : isTrue (run 400 8 [] s0) = true := by kernel_rfl
theorem memo_ok {args : List AV} {s : AS} {r : AEnd} {s' : AS} (h : memo args s = some (r, s')) : SAt 8 args s r s' := by
  unfold memo at h
  split at h
  · cases h
    obtain ⟨s2, hs2⟩ := isTrue_inv aw_run
    have hS := run_sound 400 8 [] s0 _ _ hs2
    refine ⟨hS.1, fun base w0 ρ w vargs hI hr hargs => ?_⟩
    have hg : 0 < w.heap.size := Nat.lt_of_lt_of_le hI.1 hr.size
    have hI' : I0 w.heap.size w := by
      obtain ⟨hb, m, hm⟩ := hI
      refine ⟨hg, m, ?_⟩
      have := hr.below.block 0 hb
      simpa [World.cell?, this] using hm
    have hargs' : VRL (fun _ => none) [] vargs.toList := by
      generalize vargs.toList = l at hargs
      cases hargs
      exact .nil
    refine (hS.2 w.heap.size w (fun _ => none) w vargs hI' (rel0 w) hargs').mono fun e w' ⟨ρ', hr', _, he⟩ => ?_
    have hB := hr'.below
    refine ⟨ρ, ⟨fun b x hx => ?_, hr.inj, hr.fresh, fun b c k hk => Nat.lt_of_lt_of_le (hr.bound b c k hk) hB.size, hr.below.trans (hB.mono hr.size), Nat.le_trans hr.size hB.size⟩,
      ⟨fun _ _ => rfl, fun c hc _ => hB.block c hc, fun _ hc => .inr hc, hB.size, Nat.le_refl _, fun _ _ hd => hd⟩, ?_⟩
    · obtain ⟨c, k, h1, h2, h3⟩ := hr.live b x hx
      exact ⟨c, k, h1, h2, RelBlk.mono (LExt.refl _) (hB.block c (hr.bound b c k h1)) h3⟩
    · cases e with
      | returned v =>
        cases he
        exact .bool _
      | panicked _ => exact he.elim
      | _ => exact he.elim
  · cases h
theorem I0_next (base : Nat) (w0 w : World) (hI : I0 base w0) (hb : Below base w0 w) (hs : base ≤ w.heap.size) : I0 w.heap.size w := by
  obtain ⟨h1, m, hm⟩ := hI
  refine ⟨Nat.lt_of_lt_of_le h1 hs, m, ?_⟩
  have := hb.block 0 h1
  simpa [World.cell?, this] using hm
/-- A value without places is the same everywhere. -/
theorem str_VR {ρ ρ' : Loc} {x : AV} {n : Nat} {v : Value} (hx : x = .str n) (h : VR ρ x v) : VR ρ' x v := by
  cases h <;> first
    | exact .str _
    | cases hx
theorem nil_VR {ρ ρ' : Loc} {x : AV} {v : Value} (hx : x = .nilslice) (h : VR ρ x v) : VR ρ' x v := by
  cases h <;> first
    | exact .nilslice
    | cases hx
theorem mArgs_VRL (ρ : Loc) (vs : List Value) (h : VRL ρ mArgs vs) : VRL (fun _ => none) mArgs vs := by
  unfold mArgs at h ⊢
  cases h with
  | cons h1 t =>
    cases t with
    | cons h2 t2 =>
      cases t2
      exact .cons (str_VR rfl h1) (.cons (nil_VR rfl h2) .nil)
theorem mB_eq (k : Nat) : mB k = shA k (mB 0) := by kernel_rfl
theorem mV_eq (k : Nat) : mV k = sh k (mV 0) := by kernel_rfl
theorem m_run : memoOk (run 400 9 mArgs s0) (mV 0) (mB 0) 938 = true := by kernel_rfl
theorem m_inv {r : Option (AEnd × AS)} {V : AV} {l : List (Nat × Blk)} {n : Nat} (h : memoOk r V l n = true) : ∃ s, r = some (.ret V, s) ∧ s.n = n ∧ holdsB s l = true := by
  unfold memoOk at h
  split at h
  · rename_i v s
    simp only [Bool.and_eq_true] at h
    refine ⟨s, ?_, Nat.eq_of_beq_eq_true h.1.2, h.2⟩
    rw [AV.beq_eq _ _ _ h.1.1]
  · cases h
theorem m_ok (s : AS) : SAt 9 mArgs s (.ret (mV s.n)) (addAll s (mB s.n) (s.n + 938)) := by
  obtain ⟨s1, h1, h2, h3⟩ := m_inv m_run
  have hS := run_sound 400 9 mArgs s0 _ _ h1
  refine ⟨hS.1, fun base w0 ρ w vargs hI hr ha => ?_⟩
  have := memo_sound (B := mB 0) (V := mV 0) (s1 := s1) (I := I0) (P := Tryz.prog) (f := 9) (args := mArgs) hS.2 I0_next mArgs_VRL (holdsB_mem h3) base w0 ρ s w vargs hI hr ha
  rw [mB_eq, mV_eq, ← h2]
  exact this
theorem runM_sound : ∀ n, SoundG Tryz.prog I0 (runM n)
  | 0 => fun f args s r s' h => by cases h
  | n + 1 => fun f args s r s' h => by
    simp only [runM] at h
    split at h
    · rename_i hf
      have hf' : f = 8 := Nat.eq_of_beq_eq_true hf
      subst hf'
      exact memo_ok h
    · split at h
      · rename_i hf
        have hf' : f = 9 := Nat.eq_of_beq_eq_true hf
        subst hf'
        split at h
        · rename_i hm
          cases h
          rw [AV.beqL_eq _ _ _ hm]
          exact m_ok s
        · exact look_ok tbl tbl_ok 9 (runM n) (runM_sound n) args s r s' h
      · exact look_ok tbl tbl_ok f (runM n) (runM_sound n) args s r s' h
end Go.Ex.B
