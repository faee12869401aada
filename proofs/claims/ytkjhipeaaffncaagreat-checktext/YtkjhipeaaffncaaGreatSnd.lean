/-
  Part of the proof of: The call of CheckText (libevolutionlaw07) returns true at every input.
  No condition: every input.
-/
import Derived.Test.YtkjhipeaaffncaaGreatTab
import Derived.Test.YtkjhipeaaffncaaGreatSh
set_option linter.unusedVariables false
set_option linter.unusedSimpArgs false
open Go Go.Ex Go.Proofs Go.RowKit
namespace Go.Ex.B
set_option maxRecDepth 100000
/-- Where the run began, the cell of bytealg.MaxLen holds some number. -/
def I0 (base : Nat) (w0 : World) : Prop := 0 < base ∧ ∃ m, w0.cell? ⟨0, 0, none⟩ = some (.int .i64 m)
def SAt (f : FuncId) (args : List AV) (s : AS) (r : AEnd) (s' : AS) : Prop :=
  (∀ vargs w, (callFunc f vargs).run Tryz.prog w = .ok (.enter f vargs) w) ∧
  ∀ base w0 ρ w (vargs : Array Value), I0 base w0 → Rel Tryz.prog base w0 ρ s w → VRL ρ args vargs.toList →
    Calls Tryz.prog f vargs w fun e w' => ∃ ρ', Rel Tryz.prog base w0 ρ' s' w' ∧ Step ρ s w ρ' s' w' ∧ EndR ρ' r e
def OkE (f : Nat) (p : Gam → List AV → AS → Option (AEnd × AS)) : Prop := ∀ g, SoundG Tryz.prog I0 g → ∀ args s r s', p g args s = some (r, s') → SAt f args s r s'
def OkT : T → Prop
  | .leaf f p => OkE f p
  | .node _ l r => OkT l ∧ OkT r
theorem look_ok : ∀ (t : T), OkT t → ∀ f g, SoundG Tryz.prog I0 g → ∀ args s r s', t.look f g args s = some (r, s') → SAt f args s r s'
  | .leaf k p, h, f, g, hg, args, s, r, s', e => by
    simp only [T.look] at e
    split at e
    · rename_i hk
      have hk' : k = f := Nat.eq_of_beq_eq_true hk
      subst hk'
      exact h g hg args s r s' e
    · cases e
  | .node k l r, h, f, g, hg, args, s, x, s', e => by
    simp only [T.look] at e
    split at e
    · exact look_ok r h.2 f g hg args s x s' e
    · exact look_ok l h.1 f g hg args s x s' e
theorem nd {k : Nat} {l r : T} (hl : OkT l) (hr : OkT r) : OkT (.node k l r) := ⟨hl, hr⟩
theorem hmix : Tryz.prog.follows .mixedOrders = true := by kernel_rfl
theorem hX : SoundX Tryz.prog fun f => Nat.beq f 455 := by
  intro f hf args w
  have hf' : f = 455 := Nat.eq_of_beq_eq_true hf
  subst hf'
  exact run_callFunc_extern Tryz.func455 (by kernel_rfl) (by kernel_rfl) (by kernel_rfl) (e := Extern.BytealgIndexByte.indexByte) (by kernel_rfl) args w
theorem fk {f : Nat} {g : Gam} (hg : SoundG Tryz.prog I0 g) {args : List AV} {s : AS} {r : AEnd} {s' : AS} (h : funK (env g) f args s = some (r, s')) : SAt f args s r s' :=
  funK_sound (E := env g) (I := I0) hmix hX hg f args s r s' h
theorem k0 {f : Nat} {p : Gam → AS → Option (AEnd × AS)} (h : ∀ g  s, funK (env g) f [] s = p g  s) : OkT (.leaf f fun g => ap0 (p g)) := by
  intro g hg args s r s' e
  simp only [ap0] at e
  split at e
  · exact fk hg ((h g  s).trans e)
  · cases e
theorem k1 {f : Nat} {p : Gam → AV → AS → Option (AEnd × AS)} (h : ∀ g a0 s, funK (env g) f [a0] s = p g a0 s) : OkT (.leaf f fun g => ap1 (p g)) := by
  intro g hg args s r s' e
  simp only [ap1] at e
  split at e
  · exact fk hg ((h g _ s).trans e)
  · cases e
theorem k2 {f : Nat} {p : Gam → AV → AV → AS → Option (AEnd × AS)} (h : ∀ g a0 a1 s, funK (env g) f [a0, a1] s = p g a0 a1 s) : OkT (.leaf f fun g => ap2 (p g)) := by
  intro g hg args s r s' e
  simp only [ap2] at e
  split at e
  · exact fk hg ((h g _ _ s).trans e)
  · cases e
theorem k3 {f : Nat} {p : Gam → AV → AV → AV → AS → Option (AEnd × AS)} (h : ∀ g a0 a1 a2 s, funK (env g) f [a0, a1, a2] s = p g a0 a1 a2 s) : OkT (.leaf f fun g => ap3 (p g)) := by
  intro g hg args s r s' e
  simp only [ap3] at e
  split at e
  · exact fk hg ((h g _ _ _ s).trans e)
  · cases e
theorem k4 {f : Nat} {p : Gam → AV → AV → AV → AV → AS → Option (AEnd × AS)} (h : ∀ g a0 a1 a2 a3 s, funK (env g) f [a0, a1, a2, a3] s = p g a0 a1 a2 a3 s) : OkT (.leaf f fun g => ap4 (p g)) := by
  intro g hg args s r s' e
  simp only [ap4] at e
  split at e
  · exact fk hg ((h g _ _ _ _ s).trans e)
  · cases e
theorem k5 {f : Nat} {p : Gam → AV → AV → AV → AV → AV → AS → Option (AEnd × AS)} (h : ∀ g a0 a1 a2 a3 a4 s, funK (env g) f [a0, a1, a2, a3, a4] s = p g a0 a1 a2 a3 a4 s) : OkT (.leaf f fun g => ap5 (p g)) := by
  intro g hg args s r s' e
  simp only [ap5] at e
  split at e
  · exact fk hg ((h g _ _ _ _ _ s).trans e)
  · cases e
theorem k6 {f : Nat} {p : Gam → AV → AV → AV → AV → AV → AV → AS → Option (AEnd × AS)} (h : ∀ g a0 a1 a2 a3 a4 a5 s, funK (env g) f [a0, a1, a2, a3, a4, a5] s = p g a0 a1 a2 a3 a4 a5 s) : OkT (.leaf f fun g => ap6 (p g)) := by
  intro g hg args s r s' e
  simp only [ap6] at e
  split at e
  · exact fk hg ((h g _ _ _ _ _ _ s).trans e)
  · cases e
theorem k7 {f : Nat} {p : Gam → AV → AV → AV → AV → AV → AV → AV → AS → Option (AEnd × AS)} (h : ∀ g a0 a1 a2 a3 a4 a5 a6 s, funK (env g) f [a0, a1, a2, a3, a4, a5, a6] s = p g a0 a1 a2 a3 a4 a5 a6 s) : OkT (.leaf f fun g => ap7 (p g)) := by
  intro g hg args s r s' e
  simp only [ap7] at e
  split at e
  · exact fk hg ((h g _ _ _ _ _ _ _ s).trans e)
  · cases e
def sL : Code → Code
  | .seq a _ => a
  | c => c
def sR : Code → Code
  | .seq _ b => b
  | c => c
def rId : Code → Nat
  | .region i _ _ => i
  | _ => 0
def rOps : Code → Array Oper
  | .region _ o _ => o
  | _ => #[]
def noOp : Oper := ⟨none, .move (.tmp 0), 0, "", #[], none⟩
def hdO : List Oper → Oper
  | o :: _ => o
  | [] => noOp
def tlO : List Oper → List Oper
  | _ :: l => l
  | [] => []
def clO (d : Call) : Op → Call
  | .defer c => c
  | .call c => c
  | _ => d
def noCall : Call := ⟨.value (.tmp 0), #[], #[]⟩
def bdy : Option Code → Code
  | some c => c
  | none => .skip
noncomputable def zBD : Code := bdy Tryz.f168.body
noncomputable def zBC : Code := bdy Tryz.f267.body
noncomputable def A1 : Code := sL zBD
noncomputable def A2 : Code := sL (sR zBD)
noncomputable def zRD : Code := sL (sR (sR zBD))
noncomputable def zB : Code := sR (sR (sR zBD))
noncomputable def o1 : Oper := hdO (rOps zRD).toList
noncomputable def o2 : Oper := hdO (tlO (rOps zRD).toList)
noncomputable def zGC : Array Oper := rOps (sL zBC)
noncomputable def zRC : Code := sR zBC
noncomputable def zD : Tmp := o1.dst.getD 0
theorem p168_eq (g : Gam) (a0 a1 a2 a3 a4 : AV) (s : AS) : dfnK (env g) Tryz.f168 A1 A2 zB o1 267 zGC zRC [a0, a1, a2, a3, a4] s = p168 g a0 a1 a2 a3 a4 s := by kernel_rfl
theorem eDfn : OkT (.leaf 168 fun g => ap5 (p168 g)) := by
  intro g hg args s r s' e
  simp only [ap5] at e
  split at e
  · refine dfn_sound (E := env g) (I := I0) hmix hX hg (f := 168) (g := 267) (fn := Tryz.f168) (gfn := Tryz.f267) (A1 := A1) (A2 := A2) (B := zB) (rest := zRC) (did := rId zRD) (gid := rId (sL zBC)) (o1 := o1) (o2 := o2) (or := hdO zGC.toList) (ol := tlO zGC.toList) (gops := zGC) (c2 := clO noCall o2.op) (cr := clO noCall (hdO zGC.toList).op) (d1 := zD)
      Tryz.func168 (by kernel_rfl) (by kernel_rfl) (by kernel_rfl) (by kernel_rfl) (by kernel_rfl) (by kernel_rfl) (by kernel_rfl) (by kernel_rfl) (by kernel_rfl) (by kernel_rfl)
      Tryz.func267 (by kernel_rfl) (by kernel_rfl) (by kernel_rfl) (by kernel_rfl) (by kernel_rfl) (by kernel_rfl) (by kernel_rfl) (by kernel_rfl) (by kernel_rfl) ((p168_eq g _ _ _ _ _ s).trans e)
  · cases e
theorem eCon : OkT (.leaf 333 fun _ => conK) := by
  intro g hg args s r s' e
  refine con_sound (P := Tryz.prog) (I := I0) (f := 333) (fun vargs w => ?_) (fun base w0 w a b hI hB hs => ?_) e
  · have h1 : (Tryz.f333.name == "runtime.NumGoroutine") = false := by kernel_rfl
    have h2 : Tryz.f333.body = some (bdy Tryz.f333.body) := by kernel_rfl
    have hnm : ¬ Tryz.f333.name = "runtime.NumGoroutine" := by simpa using h1
    have h3 : Tryz.prog.funcs[333]? = some Tryz.f333 := Tryz.func333
    simp [callFunc, h3, hnm]
    rw [h2]
    intro hc
    cases hc
  · obtain ⟨hb, m, hm⟩ := hI
    refine Any.strings_Contains Tryz.lays144 a b m w hs ?_
    have := hB.block 0 hb
    simpa [World.cell?, this, Tryz.lays144_ren] using hm
theorem tbl_ok : OkT tbl := (nd (nd (nd (nd (nd (nd (nd (nd (k2 p3_eq) (k2 p4_eq)) (nd (k1 p5_eq) (nd (k2 p6_eq) (k2 p7_eq)))) (nd (nd (k0 p8_eq) (nd (k2 p9_eq) (k1 p10_eq))) (nd (k1 p11_eq) (nd (k1 p12_eq) (k1 p13_eq))))) (nd (nd (nd (k1 p14_eq) (k3 p15_eq)) (nd (k2 p16_eq) (nd (k2 p17_eq) (k2 p18_eq)))) (nd (nd (k2 p19_eq) (nd (k2 p20_eq) (k1 p23_eq))) (nd (k2 p24_eq) (nd (k1 p25_eq) (k1 p26_eq)))))) (nd (nd (nd (nd (k2 p27_eq) (k1 p28_eq)) (nd (k1 p29_eq) (nd (k1 p30_eq) (k2 p31_eq)))) (nd (nd (k1 p32_eq) (nd (k1 p33_eq) (k2 p34_eq))) (nd (k2 p35_eq) (nd (k2 p36_eq) (k2 p37_eq))))) (nd (nd (nd (k2 p38_eq) (k2 p39_eq)) (nd (k2 p40_eq) (nd (k2 p41_eq) (k1 p42_eq)))) (nd (nd (k1 p43_eq) (nd (k2 p44_eq) (k2 p46_eq))) (nd (k2 p48_eq) (nd (k2 p50_eq) (k2 p52_eq))))))) (nd (nd (nd (nd (nd (k1 p53_eq) (k2 p54_eq)) (nd (k1 p55_eq) (nd (k6 p57_eq) (k1 p63_eq)))) (nd (nd (k1 p64_eq) (nd (k2 p65_eq) (k2 p66_eq))) (nd (k1 p67_eq) (nd (k6 p68_eq) (k2 p69_eq))))) (nd (nd (nd (k1 p70_eq) (k2 p71_eq)) (nd (k1 p72_eq) (nd (k5 p76_eq) (k1 p81_eq)))) (nd (nd (k1 p82_eq) (nd (k1 p83_eq) (k1 p84_eq))) (nd (k1 p85_eq) (nd (k2 p86_eq) (k2 p87_eq)))))) (nd (nd (nd (nd (k2 p88_eq) (k2 p90_eq)) (nd (k2 p91_eq) (nd (k1 p92_eq) (k2 p93_eq)))) (nd (nd (k1 p94_eq) (nd (k1 p95_eq) (k2 p96_eq))) (nd (k1 p97_eq) (nd (k1 p99_eq) (k2 p100_eq))))) (nd (nd (nd (k1 p101_eq) (nd (k2 p102_eq) (k2 p104_eq))) (nd (k2 p107_eq) (nd (k2 p111_eq) (k2 p115_eq)))) (nd (nd (k2 p117_eq) (nd (k2 p120_eq) (k2 p121_eq))) (nd (k2 p122_eq) (nd (k1 p124_eq) (k2 p133_eq)))))))) (nd (nd (nd (nd (nd (nd (k2 p134_eq) (k2 p135_eq)) (nd (k1 p136_eq) (nd (k2 p137_eq) (k1 p138_eq)))) (nd (nd (k1 p139_eq) (nd (k1 p140_eq) (k1 p141_eq))) (nd (k1 p142_eq) (nd (k1 p143_eq) (k1 p144_eq))))) (nd (nd (nd (k1 p145_eq) (k2 p146_eq)) (nd (k2 p148_eq) (nd (k2 p149_eq) (k1 p150_eq)))) (nd (nd (k2 p155_eq) (nd (k1 p156_eq) (k2 p159_eq))) (nd (k2 p162_eq) (nd (k1 p164_eq) (k2 p165_eq)))))) (nd (nd (nd (nd eDfn (k2 p169_eq)) (nd (k3 p172_eq) (nd (k2 p176_eq) (k1 p179_eq)))) (nd (nd (k1 p180_eq) (nd (k1 p181_eq) (k1 p182_eq))) (nd (k1 p183_eq) (nd (k1 p184_eq) (k1 p185_eq))))) (nd (nd (nd (k1 p186_eq) (nd (k1 p187_eq) (k2 p188_eq))) (nd (k3 p189_eq) (nd (k2 p190_eq) (k1 p191_eq)))) (nd (nd (k3 p192_eq) (nd (k3 p193_eq) (k3 p194_eq))) (nd (k3 p195_eq) (nd (k2 p196_eq) (k3 p197_eq))))))) (nd (nd (nd (nd (nd (k2 p198_eq) (k2 p199_eq)) (nd (k1 p200_eq) (nd (k1 p204_eq) (k3 p205_eq)))) (nd (nd (k1 p208_eq) (nd (k2 p209_eq) (k1 p211_eq))) (nd (k1 p212_eq) (nd (k2 p213_eq) (k1 p214_eq))))) (nd (nd (nd (k2 p215_eq) (k1 p216_eq)) (nd (k1 p217_eq) (nd (k3 p218_eq) (k2 p219_eq)))) (nd (nd (k2 p220_eq) (nd (k2 p221_eq) (k3 p223_eq))) (nd (k2 p224_eq) (nd (k2 p225_eq) (k2 p226_eq)))))) (nd (nd (nd (nd (k2 p227_eq) (k1 p228_eq)) (nd (k3 p229_eq) (nd (k1 p230_eq) (k1 p231_eq)))) (nd (nd (k2 p232_eq) (nd (k2 p233_eq) (k2 p234_eq))) (nd (k2 p235_eq) (nd (k2 p236_eq) (k2 p240_eq))))) (nd (nd (nd (k2 p244_eq) (nd (k2 p248_eq) (k2 p250_eq))) (nd (k2 p254_eq) (nd (k2 p256_eq) (k1 p257_eq)))) (nd (nd (k2 p258_eq) (nd (k1 p259_eq) (k2 p261_eq))) (nd (k2 p262_eq) (nd (k1 p263_eq) (k2 p264_eq))))))))) (nd (nd (nd (nd (nd (nd (nd (k2 p265_eq) (k1 p266_eq)) (nd (k3 p268_eq) (nd (k3 p269_eq) (k3 p272_eq)))) (nd (nd (k3 p273_eq) (nd (k1 p275_eq) (k1 p276_eq))) (nd (k1 p277_eq) (nd (k1 p278_eq) (k1 p279_eq))))) (nd (nd (nd (k1 p280_eq) (k2 p281_eq)) (nd (k2 p282_eq) (nd (k1 p284_eq) (k1 p285_eq)))) (nd (nd (k1 p286_eq) (nd (k1 p287_eq) (k3 p288_eq))) (nd (k4 p289_eq) (nd (k3 p290_eq) (k5 p291_eq)))))) (nd (nd (nd (nd (k4 p292_eq) (k4 p293_eq)) (nd (k4 p294_eq) (nd (k4 p295_eq) (k4 p296_eq)))) (nd (nd (k4 p298_eq) (nd (k4 p299_eq) (k4 p300_eq))) (nd (k1 p308_eq) (nd (k2 p309_eq) (k2 p310_eq))))) (nd (nd (nd (k2 p311_eq) (nd (k2 p312_eq) (k1 p313_eq))) (nd (k4 p315_eq) (nd (k4 p316_eq) (k3 p317_eq)))) (nd (nd (k3 p318_eq) (nd (k1 p319_eq) (k1 p320_eq))) (nd (k1 p321_eq) (nd (k1 p322_eq) (k1 p323_eq))))))) (nd (nd (nd (nd (nd (k2 p324_eq) (k1 p326_eq)) (nd (k2 p327_eq) (nd (k2 p328_eq) (k2 p329_eq)))) (nd (nd (k2 p330_eq) (nd (k2 p331_eq) eCon)) (nd (k2 p334_eq) (nd (k2 p335_eq) (k2 p336_eq))))) (nd (nd (nd (k2 p337_eq) (k2 p338_eq)) (nd (k2 p339_eq) (nd (k2 p340_eq) (k2 p341_eq)))) (nd (nd (k2 p342_eq) (nd (k2 p343_eq) (k2 p345_eq))) (nd (k2 p346_eq) (nd (k3 p347_eq) (k4 p348_eq)))))) (nd (nd (nd (nd (k4 p349_eq) (k4 p350_eq)) (nd (k4 p351_eq) (nd (k4 p352_eq) (k4 p353_eq)))) (nd (nd (k4 p354_eq) (nd (k4 p355_eq) (k2 p356_eq))) (nd (k0 p357_eq) (nd (k1 p358_eq) (k2 p359_eq))))) (nd (nd (nd (k1 p361_eq) (nd (k1 p362_eq) (k1 p363_eq))) (nd (k1 p364_eq) (nd (k3 p365_eq) (k4 p366_eq)))) (nd (nd (k1 p367_eq) (nd (k5 p368_eq) (k4 p369_eq))) (nd (k2 p370_eq) (nd (k7 p371_eq) (k2 p372_eq)))))))) (nd (nd (nd (nd (nd (nd (k2 p373_eq) (k2 p374_eq)) (nd (k2 p375_eq) (nd (k6 p376_eq) (k2 p380_eq)))) (nd (nd (k2 p381_eq) (nd (k1 p382_eq) (k1 p383_eq))) (nd (k1 p384_eq) (nd (k1 p385_eq) (k1 p386_eq))))) (nd (nd (nd (k1 p387_eq) (k1 p388_eq)) (nd (k2 p390_eq) (nd (k2 p391_eq) (k2 p392_eq)))) (nd (nd (k2 p393_eq) (nd (k4 p394_eq) (k4 p395_eq))) (nd (k2 p396_eq) (nd (k4 p397_eq) (k1 p398_eq)))))) (nd (nd (nd (nd (k2 p399_eq) (k2 p400_eq)) (nd (k4 p401_eq) (nd (k2 p402_eq) (k2 p403_eq)))) (nd (nd (k2 p404_eq) (nd (k5 p405_eq) (k2 p406_eq))) (nd (k2 p407_eq) (nd (k7 p408_eq) (k1 p409_eq))))) (nd (nd (nd (k4 p410_eq) (nd (k1 p411_eq) (k1 p412_eq))) (nd (k1 p413_eq) (nd (k4 p415_eq) (k2 p416_eq)))) (nd (nd (k2 p423_eq) (nd (k2 p424_eq) (k1 p425_eq))) (nd (k2 p426_eq) (nd (k1 p429_eq) (k2 p430_eq))))))) (nd (nd (nd (nd (nd (k1 p434_eq) (k2 p435_eq)) (nd (k3 p436_eq) (nd (k4 p437_eq) (k1 p438_eq)))) (nd (nd (k1 p439_eq) (nd (k1 p440_eq) (k4 p441_eq))) (nd (k4 p442_eq) (nd (k1 p443_eq) (k1 p444_eq))))) (nd (nd (nd (k1 p445_eq) (k2 p446_eq)) (nd (k4 p447_eq) (nd (k1 p448_eq) (k1 p449_eq)))) (nd (nd (k1 p450_eq) (nd (k2 p451_eq) (k1 p452_eq))) (nd (k1 p453_eq) (nd (k3 p454_eq) (k1 p457_eq)))))) (nd (nd (nd (nd (k3 p459_eq) (k3 p460_eq)) (nd (k2 p461_eq) (nd (k1 p462_eq) (k2 p463_eq)))) (nd (nd (k1 p464_eq) (nd (k1 p465_eq) (k2 p469_eq))) (nd (k1 p470_eq) (nd (k2 p471_eq) (k1 p472_eq))))) (nd (nd (nd (k1 p473_eq) (nd (k2 p474_eq) (k1 p476_eq))) (nd (k1 p477_eq) (nd (k1 p478_eq) (k2 p479_eq)))) (nd (nd (k2 p480_eq) (nd (k2 p481_eq) (k1 p482_eq))) (nd (k2 p483_eq) (nd (k2 p484_eq) (k2 p485_eq))))))))))
theorem run_sound : ∀ n, SoundG Tryz.prog I0 (run n)
  | 0 => fun f args s r s' h => by cases h
  | n + 1 => fun f args s r s' h => look_ok tbl tbl_ok f (run n) (run_sound n) args s r s' h
theorem rel0 (W : World) : Rel Tryz.prog W.heap.size W (fun _ => none) s0 W where
  live b x h := by cases h
  inj b b' x x' c k k' h := by cases h
  fresh b _ := ⟨rfl, rfl⟩
  bound b c k h := by cases h
  below := Below.refl _ _
  size := Nat.le_refl _
end Go.Ex.B
