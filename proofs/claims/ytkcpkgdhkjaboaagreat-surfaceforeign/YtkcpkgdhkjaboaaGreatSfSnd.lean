/-
  Part of the proof of: The call of SurfaceForeign (libevolutionlaw09) returns true at every input.
  No condition: every input.
-/
import Derived.Test.YtkcpkgdhkjaboaaGreatSfTab
import Derived.Test.YtkcpkgdhkjaboaaGreatSfSh
set_option linter.unusedVariables false
set_option linter.unusedSimpArgs false
open Go Go.Ex Go.Proofs Go.RowKit
namespace Go.Ex.B
set_option maxRecDepth 100000
/-- Where the run began, the cell of bytealg.MaxLen holds some number. -/
def I0 (base : Nat) (w0 : World) : Prop := 0 < base ∧ ∃ m, w0.cell? ⟨0, 0, none⟩ = some (.int .i64 m)
def SAt (f : FuncId) (args : List AV) (s : AS) (r : AEnd) (s' : AS) : Prop :=
  (∀ vargs w, (callFunc f vargs).run Tryz.prog w = .ok (.enter f vargs) w) ∧
  ∀ base w0 ρ w (vargs : Array Value), I0 base w0 → Rel Tryz.prog base w0 ρ s w → VRL ρ args vargs.toList →
    Calls Tryz.prog f vargs w fun e w' => ∃ ρ', Rel Tryz.prog base w0 ρ' s' w' ∧ Step ρ s w ρ' s' w' ∧ EndR ρ' r e
def OkE (f : Nat) (p : Gam → List AV → AS → Option (AEnd × AS)) : Prop := ∀ g, SoundG Tryz.prog I0 g → ∀ args s r s', p g args s = some (r, s') → SAt f args s r s'
def OkT : T → Prop
  | .leaf f p => OkE f p
  | .node _ l r => OkT l ∧ OkT r
theorem look_ok : ∀ (t : T), OkT t → ∀ f g, SoundG Tryz.prog I0 g → ∀ args s r s', t.look f g args s = some (r, s') → SAt f args s r s'
  | .leaf k p, h, f, g, hg, args, s, r, s', e => by
    simp only [T.look] at e
    split at e
    · rename_i hk
      have hk' : k = f := Nat.eq_of_beq_eq_true hk
      subst hk'
      exact h g hg args s r s' e
    · cases e
  | .node k l r, h, f, g, hg, args, s, x, s', e => by
    simp only [T.look] at e
    split at e
    · exact look_ok r h.2 f g hg args s x s' e
    · exact look_ok l h.1 f g hg args s x s' e
theorem nd {k : Nat} {l r : T} (hl : OkT l) (hr : OkT r) : OkT (.node k l r) := ⟨hl, hr⟩
theorem hmix : Tryz.prog.follows .mixedOrders = true := by kernel_rfl
theorem hX : SoundX Tryz.prog fun f => Nat.beq f 331 := by
  intro f hf args w
  have hf' : f = 331 := Nat.eq_of_beq_eq_true hf
  subst hf'
  exact run_callFunc_extern Tryz.func331 (by kernel_rfl) (by kernel_rfl) (by kernel_rfl) (e := Extern.BytealgIndexByte.indexByte) (by kernel_rfl) args w
theorem fk {f : Nat} {g : Gam} (hg : SoundG Tryz.prog I0 g) {args : List AV} {s : AS} {r : AEnd} {s' : AS} (h : funK (env g) f args s = some (r, s')) : SAt f args s r s' :=
  funK_sound (E := env g) (I := I0) hmix hX hg f args s r s' h
theorem k0 {f : Nat} {p : Gam → AS → Option (AEnd × AS)} (h : ∀ g  s, funK (env g) f [] s = p g  s) : OkT (.leaf f fun g => ap0 (p g)) := by
  intro g hg args s r s' e
  simp only [ap0] at e
  split at e
  · exact fk hg ((h g  s).trans e)
  · cases e
theorem k1 {f : Nat} {p : Gam → AV → AS → Option (AEnd × AS)} (h : ∀ g a0 s, funK (env g) f [a0] s = p g a0 s) : OkT (.leaf f fun g => ap1 (p g)) := by
  intro g hg args s r s' e
  simp only [ap1] at e
  split at e
  · exact fk hg ((h g _ s).trans e)
  · cases e
theorem k2 {f : Nat} {p : Gam → AV → AV → AS → Option (AEnd × AS)} (h : ∀ g a0 a1 s, funK (env g) f [a0, a1] s = p g a0 a1 s) : OkT (.leaf f fun g => ap2 (p g)) := by
  intro g hg args s r s' e
  simp only [ap2] at e
  split at e
  · exact fk hg ((h g _ _ s).trans e)
  · cases e
theorem k3 {f : Nat} {p : Gam → AV → AV → AV → AS → Option (AEnd × AS)} (h : ∀ g a0 a1 a2 s, funK (env g) f [a0, a1, a2] s = p g a0 a1 a2 s) : OkT (.leaf f fun g => ap3 (p g)) := by
  intro g hg args s r s' e
  simp only [ap3] at e
  split at e
  · exact fk hg ((h g _ _ _ s).trans e)
  · cases e
theorem k4 {f : Nat} {p : Gam → AV → AV → AV → AV → AS → Option (AEnd × AS)} (h : ∀ g a0 a1 a2 a3 s, funK (env g) f [a0, a1, a2, a3] s = p g a0 a1 a2 a3 s) : OkT (.leaf f fun g => ap4 (p g)) := by
  intro g hg args s r s' e
  simp only [ap4] at e
  split at e
  · exact fk hg ((h g _ _ _ _ s).trans e)
  · cases e
theorem k5 {f : Nat} {p : Gam → AV → AV → AV → AV → AV → AS → Option (AEnd × AS)} (h : ∀ g a0 a1 a2 a3 a4 s, funK (env g) f [a0, a1, a2, a3, a4] s = p g a0 a1 a2 a3 a4 s) : OkT (.leaf f fun g => ap5 (p g)) := by
  intro g hg args s r s' e
  simp only [ap5] at e
  split at e
  · exact fk hg ((h g _ _ _ _ _ s).trans e)
  · cases e
theorem k6 {f : Nat} {p : Gam → AV → AV → AV → AV → AV → AV → AS → Option (AEnd × AS)} (h : ∀ g a0 a1 a2 a3 a4 a5 s, funK (env g) f [a0, a1, a2, a3, a4, a5] s = p g a0 a1 a2 a3 a4 a5 s) : OkT (.leaf f fun g => ap6 (p g)) := by
  intro g hg args s r s' e
  simp only [ap6] at e
  split at e
  · exact fk hg ((h g _ _ _ _ _ _ s).trans e)
  · cases e
theorem k7 {f : Nat} {p : Gam → AV → AV → AV → AV → AV → AV → AV → AS → Option (AEnd × AS)} (h : ∀ g a0 a1 a2 a3 a4 a5 a6 s, funK (env g) f [a0, a1, a2, a3, a4, a5, a6] s = p g a0 a1 a2 a3 a4 a5 a6 s) : OkT (.leaf f fun g => ap7 (p g)) := by
  intro g hg args s r s' e
  simp only [ap7] at e
  split at e
  · exact fk hg ((h g _ _ _ _ _ _ _ s).trans e)
  · cases e
def sL : Code → Code
  | .seq a _ => a
  | c => c
def sR : Code → Code
  | .seq _ b => b
  | c => c
def rId : Code → Nat
  | .region i _ _ => i
  | _ => 0
def rOps : Code → Array Oper
  | .region _ o _ => o
  | _ => #[]
def noOp : Oper := ⟨none, .move (.tmp 0), 0, "", #[], none⟩
def hdO : List Oper → Oper
  | o :: _ => o
  | [] => noOp
def tlO : List Oper → List Oper
  | _ :: l => l
  | [] => []
def clO (d : Call) : Op → Call
  | .defer c => c
  | .call c => c
  | _ => d
def noCall : Call := ⟨.value (.tmp 0), #[], #[]⟩
def bdy : Option Code → Code
  | some c => c
  | none => .skip
noncomputable def zBD : Code := bdy Tryz.f51.body
noncomputable def zBC : Code := bdy Tryz.f89.body
noncomputable def A1 : Code := sL zBD
noncomputable def A2 : Code := sL (sR zBD)
noncomputable def zRD : Code := sL (sR (sR zBD))
noncomputable def zB : Code := sR (sR (sR zBD))
noncomputable def o1 : Oper := hdO (rOps zRD).toList
noncomputable def o2 : Oper := hdO (tlO (rOps zRD).toList)
noncomputable def zGC : Array Oper := rOps (sL zBC)
noncomputable def zRC : Code := sR zBC
noncomputable def zD : Tmp := o1.dst.getD 0
theorem p51_eq (g : Gam) (a0 a1 a2 a3 a4 : AV) (s : AS) : dfnK (env g) Tryz.f51 A1 A2 zB o1 89 zGC zRC [a0, a1, a2, a3, a4] s = p51 g a0 a1 a2 a3 a4 s := by kernel_rfl
theorem eDfn : OkT (.leaf 51 fun g => ap5 (p51 g)) := by
  intro g hg args s r s' e
  simp only [ap5] at e
  split at e
  · refine dfn_sound (E := env g) (I := I0) hmix hX hg (f := 51) (g := 89) (fn := Tryz.f51) (gfn := Tryz.f89) (A1 := A1) (A2 := A2) (B := zB) (rest := zRC) (did := rId zRD) (gid := rId (sL zBC)) (o1 := o1) (o2 := o2) (or := hdO zGC.toList) (ol := tlO zGC.toList) (gops := zGC) (c2 := clO noCall o2.op) (cr := clO noCall (hdO zGC.toList).op) (d1 := zD)
      Tryz.func51 (by kernel_rfl) (by kernel_rfl) (by kernel_rfl) (by kernel_rfl) (by kernel_rfl) (by kernel_rfl) (by kernel_rfl) (by kernel_rfl) (by kernel_rfl) (by kernel_rfl)
      Tryz.func89 (by kernel_rfl) (by kernel_rfl) (by kernel_rfl) (by kernel_rfl) (by kernel_rfl) (by kernel_rfl) (by kernel_rfl) (by kernel_rfl) (by kernel_rfl) ((p51_eq g _ _ _ _ _ s).trans e)
  · cases e
theorem eCon : OkT (.leaf 126 fun _ => conK) := by
  intro g hg args s r s' e
  refine con_sound (P := Tryz.prog) (I := I0) (f := 126) (fun vargs w => ?_) (fun base w0 w a b hI hB hs => ?_) e
  · have h1 : (Tryz.f126.name == "runtime.NumGoroutine") = false := by kernel_rfl
    have h2 : Tryz.f126.body = some (bdy Tryz.f126.body) := by kernel_rfl
    have hnm : ¬ Tryz.f126.name = "runtime.NumGoroutine" := by simpa using h1
    have h3 : Tryz.prog.funcs[126]? = some Tryz.f126 := Tryz.func126
    simp [callFunc, h3, hnm]
    rw [h2]
    intro hc
    cases hc
  · obtain ⟨hb, m, hm⟩ := hI
    refine Any.strings_Contains Tryz.lays144 a b m w hs ?_
    have := hB.block 0 hb
    simpa [World.cell?, this, Tryz.lays144_ren] using hm
theorem tbl_ok : OkT tbl := (nd (nd (nd (nd (nd (nd (nd (nd (k2 p4_eq) (k2 p5_eq)) (nd (k1 p6_eq) (k2 p7_eq))) (nd (nd (k0 p8_eq) (k2 p9_eq)) (nd (k1 p10_eq) (k1 p11_eq)))) (nd (nd (nd (k2 p12_eq) (k2 p13_eq)) (nd (k2 p14_eq) (k2 p15_eq))) (nd (nd (k2 p16_eq) (k2 p17_eq)) (nd (k2 p18_eq) (nd (k2 p21_eq) (k2 p24_eq)))))) (nd (nd (nd (nd (k3 p25_eq) (k1 p26_eq)) (nd (k1 p27_eq) (k2 p28_eq))) (nd (nd (k2 p29_eq) (k2 p30_eq)) (nd (k2 p31_eq) (k2 p32_eq)))) (nd (nd (nd (k2 p34_eq) (k2 p35_eq)) (nd (k3 p36_eq) (k2 p37_eq))) (nd (nd (k2 p38_eq) (k2 p39_eq)) (nd (k2 p40_eq) (nd (k2 p41_eq) (k2 p42_eq))))))) (nd (nd (nd (nd (nd (k2 p45_eq) (k2 p46_eq)) (nd (k2 p47_eq) (k2 p48_eq))) (nd (nd (k2 p49_eq) (k2 p50_eq)) (nd eDfn (k2 p52_eq)))) (nd (nd (nd (k1 p53_eq) (k1 p54_eq)) (nd (k1 p55_eq) (k1 p56_eq))) (nd (nd (k1 p57_eq) (k1 p58_eq)) (nd (k1 p59_eq) (nd (k2 p60_eq) (k1 p61_eq)))))) (nd (nd (nd (nd (k1 p62_eq) (k2 p63_eq)) (nd (k2 p64_eq) (k2 p65_eq))) (nd (nd (k2 p66_eq) (k2 p68_eq)) (nd (k2 p69_eq) (nd (k2 p70_eq) (k2 p71_eq))))) (nd (nd (nd (k2 p72_eq) (k2 p73_eq)) (nd (k2 p74_eq) (k1 p76_eq))) (nd (nd (k2 p77_eq) (k2 p78_eq)) (nd (k2 p80_eq) (nd (k2 p81_eq) (k2 p82_eq)))))))) (nd (nd (nd (nd (nd (nd (k2 p83_eq) (k2 p86_eq)) (nd (k1 p87_eq) (k1 p88_eq))) (nd (nd (k3 p90_eq) (k4 p91_eq)) (nd (k1 p92_eq) (k1 p93_eq)))) (nd (nd (nd (k2 p94_eq) (k1 p96_eq)) (nd (k1 p97_eq) (k2 p98_eq))) (nd (nd (k1 p99_eq) (k2 p100_eq)) (nd (k1 p101_eq) (nd (k1 p102_eq) (k1 p103_eq)))))) (nd (nd (nd (nd (k1 p104_eq) (k1 p105_eq)) (nd (k1 p106_eq) (k1 p107_eq))) (nd (nd (k1 p108_eq) (k1 p109_eq)) (nd (k1 p110_eq) (nd (k1 p111_eq) (k2 p112_eq))))) (nd (nd (nd (k3 p113_eq) (k3 p114_eq)) (nd (k2 p115_eq) (k2 p116_eq))) (nd (nd (k2 p117_eq) (k3 p119_eq)) (nd (k2 p120_eq) (nd (k2 p121_eq) (k2 p122_eq))))))) (nd (nd (nd (nd (nd (k2 p123_eq) (k2 p124_eq)) (nd (k2 p125_eq) eCon)) (nd (nd (k2 p127_eq) (k4 p128_eq)) (nd (k1 p129_eq) (k1 p130_eq)))) (nd (nd (nd (k4 p131_eq) (k1 p132_eq)) (nd (k1 p133_eq) (k4 p134_eq))) (nd (nd (k1 p135_eq) (k4 p137_eq)) (nd (k1 p138_eq) (nd (k1 p139_eq) (k2 p140_eq)))))) (nd (nd (nd (nd (k2 p141_eq) (k1 p142_eq)) (nd (k2 p143_eq) (k2 p144_eq))) (nd (nd (k1 p145_eq) (k1 p146_eq)) (nd (k2 p147_eq) (nd (k1 p148_eq) (k3 p149_eq))))) (nd (nd (nd (k4 p150_eq) (k4 p152_eq)) (nd (k4 p153_eq) (k4 p154_eq))) (nd (nd (k4 p155_eq) (k4 p157_eq)) (nd (k3 p158_eq) (nd (k2 p164_eq) (k1 p168_eq))))))))) (nd (nd (nd (nd (nd (nd (nd (k1 p169_eq) (k2 p170_eq)) (nd (k2 p171_eq) (k2 p172_eq))) (nd (nd (k2 p173_eq) (k1 p174_eq)) (nd (k4 p176_eq) (k4 p177_eq)))) (nd (nd (nd (k3 p179_eq) (k1 p180_eq)) (nd (k1 p181_eq) (k1 p182_eq))) (nd (nd (k1 p183_eq) (k1 p184_eq)) (nd (k1 p185_eq) (nd (k1 p186_eq) (k1 p187_eq)))))) (nd (nd (nd (nd (k1 p188_eq) (k1 p189_eq)) (nd (k1 p190_eq) (k1 p191_eq))) (nd (nd (k1 p192_eq) (k1 p193_eq)) (nd (k2 p194_eq) (k2 p196_eq)))) (nd (nd (nd (k2 p197_eq) (k1 p198_eq)) (nd (k2 p199_eq) (k2 p200_eq))) (nd (nd (k2 p201_eq) (k2 p203_eq)) (nd (k2 p204_eq) (nd (k2 p205_eq) (k2 p207_eq))))))) (nd (nd (nd (nd (nd (k2 p208_eq) (k1 p209_eq)) (nd (k2 p210_eq) (k1 p211_eq))) (nd (nd (k2 p213_eq) (k1 p214_eq)) (nd (k2 p215_eq) (k1 p216_eq)))) (nd (nd (nd (k1 p217_eq) (k1 p218_eq)) (nd (k1 p219_eq) (k1 p220_eq))) (nd (nd (k2 p221_eq) (k1 p222_eq)) (nd (k1 p223_eq) (nd (k1 p224_eq) (k1 p225_eq)))))) (nd (nd (nd (nd (k2 p226_eq) (k2 p227_eq)) (nd (k4 p228_eq) (k4 p229_eq))) (nd (nd (k2 p230_eq) (k4 p231_eq)) (nd (k1 p232_eq) (nd (k2 p236_eq) (k2 p237_eq))))) (nd (nd (nd (k2 p238_eq) (k2 p239_eq)) (nd (k5 p240_eq) (k2 p241_eq))) (nd (nd (k2 p242_eq) (k7 p243_eq)) (nd (k1 p244_eq) (nd (k1 p251_eq) (k2 p252_eq)))))))) (nd (nd (nd (nd (nd (nd (k2 p253_eq) (k1 p254_eq)) (nd (k1 p255_eq) (k1 p256_eq))) (nd (nd (k1 p257_eq) (k1 p259_eq)) (nd (k1 p260_eq) (k1 p261_eq)))) (nd (nd (nd (k1 p262_eq) (k1 p263_eq)) (nd (k1 p264_eq) (k0 p265_eq))) (nd (nd (k1 p266_eq) (k1 p267_eq)) (nd (k2 p268_eq) (nd (k2 p269_eq) (k1 p270_eq)))))) (nd (nd (nd (nd (k1 p271_eq) (k3 p272_eq)) (nd (k1 p273_eq) (k1 p274_eq))) (nd (nd (k2 p275_eq) (k2 p276_eq)) (nd (k1 p277_eq) (nd (k1 p278_eq) (k2 p279_eq))))) (nd (nd (nd (k2 p280_eq) (k1 p281_eq)) (nd (k2 p283_eq) (k2 p284_eq))) (nd (nd (k3 p285_eq) (k1 p288_eq)) (nd (k2 p289_eq) (nd (k2 p290_eq) (k1 p291_eq))))))) (nd (nd (nd (nd (nd (k2 p292_eq) (k2 p294_eq)) (nd (k2 p295_eq) (k1 p296_eq))) (nd (nd (k2 p297_eq) (k1 p300_eq)) (nd (k1 p301_eq) (k1 p303_eq)))) (nd (nd (nd (k1 p304_eq) (k2 p305_eq)) (nd (k2 p310_eq) (k2 p311_eq))) (nd (nd (k3 p312_eq) (k1 p313_eq)) (nd (k3 p315_eq) (nd (k3 p316_eq) (k2 p319_eq)))))) (nd (nd (nd (nd (k1 p320_eq) (k2 p325_eq)) (nd (k1 p326_eq) (k2 p327_eq))) (nd (nd (k1 p328_eq) (k1 p329_eq)) (nd (k2 p333_eq) (nd (k2 p334_eq) (k1 p337_eq))))) (nd (nd (nd (k1 p338_eq) (k1 p339_eq)) (nd (k2 p340_eq) (k2 p341_eq))) (nd (nd (k2 p342_eq) (k1 p343_eq)) (nd (k2 p344_eq) (nd (k2 p345_eq) (k2 p346_eq))))))))))
theorem run_sound : ∀ n, SoundG Tryz.prog I0 (run n)
  | 0 => fun f args s r s' h => by cases h
  | n + 1 => fun f args s r s' h => look_ok tbl tbl_ok f (run n) (run_sound n) args s r s' h
end Go.Ex.B
