/-
  CalcTold: the law tells true, as the machine reckons it. Conditions: what is known of the tokens; how value.Right and the document's Right end.
  CalcTold: the law tells true at every value and number. Condition: the ints fit their kinds.
-/
import Derived.Test.YtgdkdmcjjcgcaaaGreatDoorCA
import Derived.Test.YtgdkdmcjjcgcaaaGreatDoorCJ
import Derived.Test.YtgdkdmcjjcgcaaaGreatDoorCT0
import Derived.Test.YtgdkdmcjjcgcaaaGreatDoorCT1
import Derived.Test.YtgdkdmcjjcgcaaaGreatDoorCT2
import Derived.Test.YtgdkdmcjjcgcaaaGreatDoorCT3
import Derived.Test.YtgdkdmcjjcgcaaaGreatDoorCB0
import Derived.Test.YtgdkdmcjjcgcaaaGreatDoorCB1
import Derived.Test.YtgdkdmcjjcgcaaaGreatDoorCB2
import Derived.Test.YtgdkdmcjjcgcaaaGreatDoorCB3
import Derived.Test.YtgdkdmcjjcgcaaaGreatDoorQ8
set_option linter.unusedSectionVars false
namespace Go.Proofs.YtgdkdmcjjcgcaaaGreatDoor
namespace AM
open Go.RowKit
variable [Toks]
theorem tells_seq2 {P : Program} {E E2 : Env} {Q : Eqs} {call : ACall} {round : ARound} (hE : E.Ok P) (hQ : Q.Ok P) (hC : CallOk P call) (hR : RoundOk P round) (hm : P.follows .mixedOrders = true) {f : Nat} {fn : Func} {c : Code} {T : Tri Value} {H : AH} (S : Cut) (hc : c = .seq (seqL c) (seqR c))
    (hx : reaches (acode P E Q call round fn.ntmps f none (seqL c) T H []) S = true) (hy : CodeTells P E2 fn (seqR c) S.T S.H) : CodeTells P E2 fn c T H := by
  obtain ⟨outs, h1, h2⟩ := hy
  refine ⟨outs, ?_, h2⟩
  rw [hc]
  exact cut_seq hE hQ hC hR hm S hx h1
abbrev OvOk (ov : ACall → ACall) : Prop := ∀ call, CallOk Tryz.prog call → CallOk Tryz.prog (ov call)
theorem ok_T0 (hE : (envL Tryz.prog (some false) (some false) (some 0)).Ok Tryz.prog) (hO : OvOk ovT) : CallOk Tryz.prog (amT Tryz.prog 0).1 ∧ RoundOk Tryz.prog (amT Tryz.prog 0).2 := (amZ_ok hO hE eqP_ok mixed_P 60)
theorem e11_T0 (hE : (envL Tryz.prog (some false) (some false) (some 0)).Ok Tryz.prog) (hO : OvOk ovT) : CodeTells Tryz.prog (envL Tryz.prog (some false) (some false) (some 0)) Tryz.f3 (cAt 10 (bodyOf Tryz.f3)) T0_10.T T0_10.H := tells_end hE eqP_ok (ok_T0 hE hO).1 (ok_T0 hE hO).2 mixed_P p11_T0
theorem e10_T0 (hE : (envL Tryz.prog (some false) (some false) (some 0)).Ok Tryz.prog) (hO : OvOk ovT) : CodeTells Tryz.prog (envL Tryz.prog (some false) (some false) (some 0)) Tryz.f3 (cAt 9 (bodyOf Tryz.f3)) T0_9.T T0_9.H := tells_seq hE eqP_ok (ok_T0 hE hO).1 (ok_T0 hE hO).2 mixed_P T0_10 (by kernel_rfl) p10_T0 (e11_T0 hE hO)
theorem e9_T0 (hE : (envL Tryz.prog (some false) (some false) (some 0)).Ok Tryz.prog) (hO : OvOk ovT) : CodeTells Tryz.prog (envL Tryz.prog (some false) (some false) (some 0)) Tryz.f3 (cAt 8 (bodyOf Tryz.f3)) T0_8.T T0_8.H := tells_seq hE eqP_ok (ok_T0 hE hO).1 (ok_T0 hE hO).2 mixed_P T0_9 (by kernel_rfl) p9_T0 (e10_T0 hE hO)
theorem e8_T0 (hE : (envL Tryz.prog (some false) (some false) (some 0)).Ok Tryz.prog) (hO : OvOk ovT) : CodeTells Tryz.prog (envL Tryz.prog (some false) (some false) (some 0)) Tryz.f3 (cAt 7 (bodyOf Tryz.f3)) T0_7.T T0_7.H := tells_seq hE eqP_ok (ok_T0 hE hO).1 (ok_T0 hE hO).2 mixed_P T0_8 (by kernel_rfl) p8_T0 (e9_T0 hE hO)
theorem e7_T0 (hE : (envL Tryz.prog (some false) (some false) (some 0)).Ok Tryz.prog) (hO : OvOk ovT) : CodeTells Tryz.prog (envL Tryz.prog (some false) (some false) (some 0)) Tryz.f3 (cAt 6 (bodyOf Tryz.f3)) T0_6.T T0_6.H := tells_seq hE eqP_ok (ok_T0 hE hO).1 (ok_T0 hE hO).2 mixed_P T0_7 (by kernel_rfl) p7_T0 (e8_T0 hE hO)
theorem e6_T0 (hE : (envL Tryz.prog (some false) (some false) (some 0)).Ok Tryz.prog) (hO : OvOk ovT) : CodeTells Tryz.prog (envL Tryz.prog (some false) (some false) (some 0)) Tryz.f3 (cAt 5 (bodyOf Tryz.f3)) T0_5.T T0_5.H := tells_seq hE eqP_ok (ok_T0 hE hO).1 (ok_T0 hE hO).2 mixed_P T0_6 (by kernel_rfl) p6_T0 (e7_T0 hE hO)
theorem e5_T0 (hE : (envL Tryz.prog (some false) (some false) (some 0)).Ok Tryz.prog) (hO : OvOk ovT) : CodeTells Tryz.prog (envL Tryz.prog (some false) (some false) (some 0)) Tryz.f3 (cAt 4 (bodyOf Tryz.f3)) T0_4.T T0_4.H := tells_seq hE eqP_ok (ok_T0 hE hO).1 (ok_T0 hE hO).2 mixed_P T0_5 (by kernel_rfl) p5_T0 (e6_T0 hE hO)
theorem e4_T0 (hE : (envL Tryz.prog (some false) (some false) (some 0)).Ok Tryz.prog) (hO : OvOk ovT) : CodeTells Tryz.prog (envL Tryz.prog (some false) (some false) (some 0)) Tryz.f3 (cAt 3 (bodyOf Tryz.f3)) T0_3.T T0_3.H := tells_seq hE eqP_ok (ok_T0 hE hO).1 (ok_T0 hE hO).2 mixed_P T0_4 (by kernel_rfl) p4_T0 (e5_T0 hE hO)
theorem e3_T0 (hE : (envL Tryz.prog (some false) (some false) (some 0)).Ok Tryz.prog) (hO : OvOk ovT) : CodeTells Tryz.prog (envL Tryz.prog (some false) (some false) (some 0)) Tryz.f3 (cAt 2 (bodyOf Tryz.f3)) T0_2.T T0_2.H := tells_seq hE eqP_ok (ok_T0 hE hO).1 (ok_T0 hE hO).2 mixed_P T0_3 (by kernel_rfl) p3_T0 (e4_T0 hE hO)
theorem e2_T0 (hE : (envL Tryz.prog (some false) (some false) (some 0)).Ok Tryz.prog) (hO : OvOk ovT) : CodeTells Tryz.prog (envL Tryz.prog (some false) (some false) (some 0)) Tryz.f3 (cAt 1 (bodyOf Tryz.f3)) T0_1.T T0_1.H := tells_seq hE eqP_ok (ok_T0 hE hO).1 (ok_T0 hE hO).2 mixed_P T0_2 (by kernel_rfl) p2_T0 (e3_T0 hE hO)
theorem e1_T0 (hE : (envL Tryz.prog (some false) (some false) (some 0)).Ok Tryz.prog) (hO : OvOk ovT) : CodeTells Tryz.prog (envL Tryz.prog (some false) (some false) (some 0)) Tryz.f3 (cAt 0 (bodyOf Tryz.f3)) (atmps [vTok, .complex .f64 0 4] 0 .nil) (tabsH []) := tells_seq hE eqP_ok (ok_T0 hE hO).1 (ok_T0 hE hO).2 mixed_P T0_1 (by kernel_rfl) p1_T0 (e2_T0 hE hO)
theorem ok_T1 (hE : (envL Tryz.prog (some false) (some false) (some 1)).Ok Tryz.prog) (hO : OvOk ovT) : CallOk Tryz.prog (amT Tryz.prog 1).1 ∧ RoundOk Tryz.prog (amT Tryz.prog 1).2 := (amZ_ok hO hE eqP_ok mixed_P 60)
theorem e11_T1 (hE : (envL Tryz.prog (some false) (some false) (some 1)).Ok Tryz.prog) (hO : OvOk ovT) : CodeTells Tryz.prog (envL Tryz.prog (some false) (some false) (some 1)) Tryz.f3 (cAt 10 (bodyOf Tryz.f3)) T1_10.T T1_10.H := tells_end hE eqP_ok (ok_T1 hE hO).1 (ok_T1 hE hO).2 mixed_P p11_T1
theorem e10_T1 (hE : (envL Tryz.prog (some false) (some false) (some 1)).Ok Tryz.prog) (hO : OvOk ovT) : CodeTells Tryz.prog (envL Tryz.prog (some false) (some false) (some 1)) Tryz.f3 (cAt 9 (bodyOf Tryz.f3)) T1_9.T T1_9.H := tells_seq hE eqP_ok (ok_T1 hE hO).1 (ok_T1 hE hO).2 mixed_P T1_10 (by kernel_rfl) p10_T1 (e11_T1 hE hO)
theorem e9_T1 (hE : (envL Tryz.prog (some false) (some false) (some 1)).Ok Tryz.prog) (hO : OvOk ovT) : CodeTells Tryz.prog (envL Tryz.prog (some false) (some false) (some 1)) Tryz.f3 (cAt 8 (bodyOf Tryz.f3)) T1_8.T T1_8.H := tells_seq hE eqP_ok (ok_T1 hE hO).1 (ok_T1 hE hO).2 mixed_P T1_9 (by kernel_rfl) p9_T1 (e10_T1 hE hO)
theorem e8_T1 (hE : (envL Tryz.prog (some false) (some false) (some 1)).Ok Tryz.prog) (hO : OvOk ovT) : CodeTells Tryz.prog (envL Tryz.prog (some false) (some false) (some 1)) Tryz.f3 (cAt 7 (bodyOf Tryz.f3)) T1_7.T T1_7.H := tells_seq hE eqP_ok (ok_T1 hE hO).1 (ok_T1 hE hO).2 mixed_P T1_8 (by kernel_rfl) p8_T1 (e9_T1 hE hO)
theorem e7_T1 (hE : (envL Tryz.prog (some false) (some false) (some 1)).Ok Tryz.prog) (hO : OvOk ovT) : CodeTells Tryz.prog (envL Tryz.prog (some false) (some false) (some 1)) Tryz.f3 (cAt 6 (bodyOf Tryz.f3)) T1_6.T T1_6.H := tells_seq hE eqP_ok (ok_T1 hE hO).1 (ok_T1 hE hO).2 mixed_P T1_7 (by kernel_rfl) p7_T1 (e8_T1 hE hO)
theorem e6_T1 (hE : (envL Tryz.prog (some false) (some false) (some 1)).Ok Tryz.prog) (hO : OvOk ovT) : CodeTells Tryz.prog (envL Tryz.prog (some false) (some false) (some 1)) Tryz.f3 (cAt 5 (bodyOf Tryz.f3)) T1_5.T T1_5.H := tells_seq hE eqP_ok (ok_T1 hE hO).1 (ok_T1 hE hO).2 mixed_P T1_6 (by kernel_rfl) p6_T1 (e7_T1 hE hO)
theorem e5_T1 (hE : (envL Tryz.prog (some false) (some false) (some 1)).Ok Tryz.prog) (hO : OvOk ovT) : CodeTells Tryz.prog (envL Tryz.prog (some false) (some false) (some 1)) Tryz.f3 (cAt 4 (bodyOf Tryz.f3)) T1_4.T T1_4.H := tells_seq hE eqP_ok (ok_T1 hE hO).1 (ok_T1 hE hO).2 mixed_P T1_5 (by kernel_rfl) p5_T1 (e6_T1 hE hO)
theorem e4_T1 (hE : (envL Tryz.prog (some false) (some false) (some 1)).Ok Tryz.prog) (hO : OvOk ovT) : CodeTells Tryz.prog (envL Tryz.prog (some false) (some false) (some 1)) Tryz.f3 (cAt 3 (bodyOf Tryz.f3)) T1_3.T T1_3.H := tells_seq hE eqP_ok (ok_T1 hE hO).1 (ok_T1 hE hO).2 mixed_P T1_4 (by kernel_rfl) p4_T1 (e5_T1 hE hO)
theorem e3_T1 (hE : (envL Tryz.prog (some false) (some false) (some 1)).Ok Tryz.prog) (hO : OvOk ovT) : CodeTells Tryz.prog (envL Tryz.prog (some false) (some false) (some 1)) Tryz.f3 (cAt 2 (bodyOf Tryz.f3)) T1_2.T T1_2.H := tells_seq hE eqP_ok (ok_T1 hE hO).1 (ok_T1 hE hO).2 mixed_P T1_3 (by kernel_rfl) p3_T1 (e4_T1 hE hO)
theorem e2_T1 (hE : (envL Tryz.prog (some false) (some false) (some 1)).Ok Tryz.prog) (hO : OvOk ovT) : CodeTells Tryz.prog (envL Tryz.prog (some false) (some false) (some 1)) Tryz.f3 (cAt 1 (bodyOf Tryz.f3)) T1_1.T T1_1.H := tells_seq hE eqP_ok (ok_T1 hE hO).1 (ok_T1 hE hO).2 mixed_P T1_2 (by kernel_rfl) p2_T1 (e3_T1 hE hO)
theorem e1_T1 (hE : (envL Tryz.prog (some false) (some false) (some 1)).Ok Tryz.prog) (hO : OvOk ovT) : CodeTells Tryz.prog (envL Tryz.prog (some false) (some false) (some 1)) Tryz.f3 (cAt 0 (bodyOf Tryz.f3)) (atmps [vTok, .complex .f64 0 4] 0 .nil) (tabsH []) := tells_seq hE eqP_ok (ok_T1 hE hO).1 (ok_T1 hE hO).2 mixed_P T1_1 (by kernel_rfl) p1_T1 (e2_T1 hE hO)
theorem ok_T2 (hE : (envL Tryz.prog (some false) (some false) (some 2)).Ok Tryz.prog) (hO : OvOk ovT) : CallOk Tryz.prog (amT Tryz.prog 2).1 ∧ RoundOk Tryz.prog (amT Tryz.prog 2).2 := (amZ_ok hO hE eqP_ok mixed_P 60)
theorem okJ_T2 (hE : (envL Tryz.prog (some false) (some false) (some 2)).Ok Tryz.prog) (hO : OvOk ovT) : CallOk Tryz.prog (amJ_T2 Tryz.prog).1 ∧ RoundOk Tryz.prog (amJ_T2 Tryz.prog).2 := amZ_ok (fun call hc => hO _ (acallJ_ok amK_ok.1 row_T2 _ hc)) hE eqP_ok mixed_P 60
theorem okG_T2 (hE : (envL Tryz.prog (some false) (some false) (some 2)).Ok Tryz.prog) (hO : OvOk ovT) : CallOk Tryz.prog (amG_T2 Tryz.prog).1 ∧ RoundOk Tryz.prog (amG_T2 Tryz.prog).2 := amZ_ok (fun call hc => hO _ (acallZ_ok (okJ_T2 hE hO).1 beg_T2 _ (acallZ_ok (ok_T2 hE hO).1 pas_T2 _ hc))) hE eqP_ok mixed_P 60
theorem e11_T2 (hE : (envL Tryz.prog (some false) (some false) (some 2)).Ok Tryz.prog) (hO : OvOk ovT) : CodeTells Tryz.prog (envL Tryz.prog (some false) (some false) (some 2)) Tryz.f3 (cAt 10 (bodyOf Tryz.f3)) T2_10.T T2_10.H := tells_end hE eqP_ok (ok_T2 hE hO).1 (ok_T2 hE hO).2 mixed_P p11_T2
theorem e10_T2 (hE : (envL Tryz.prog (some false) (some false) (some 2)).Ok Tryz.prog) (hO : OvOk ovT) : CodeTells Tryz.prog (envL Tryz.prog (some false) (some false) (some 2)) Tryz.f3 (cAt 9 (bodyOf Tryz.f3)) T2_9.T T2_9.H := tells_seq hE eqP_ok (okG_T2 hE hO).1 (okG_T2 hE hO).2 mixed_P T2_10 (by kernel_rfl) p10_T2 (e11_T2 hE hO)
theorem e9_T2 (hE : (envL Tryz.prog (some false) (some false) (some 2)).Ok Tryz.prog) (hO : OvOk ovT) : CodeTells Tryz.prog (envL Tryz.prog (some false) (some false) (some 2)) Tryz.f3 (cAt 8 (bodyOf Tryz.f3)) T2_8.T T2_8.H := tells_seq hE eqP_ok (ok_T2 hE hO).1 (ok_T2 hE hO).2 mixed_P T2_9 (by kernel_rfl) p9_T2 (e10_T2 hE hO)
theorem e8_T2 (hE : (envL Tryz.prog (some false) (some false) (some 2)).Ok Tryz.prog) (hO : OvOk ovT) : CodeTells Tryz.prog (envL Tryz.prog (some false) (some false) (some 2)) Tryz.f3 (cAt 7 (bodyOf Tryz.f3)) T2_7.T T2_7.H := tells_seq hE eqP_ok (ok_T2 hE hO).1 (ok_T2 hE hO).2 mixed_P T2_8 (by kernel_rfl) p8_T2 (e9_T2 hE hO)
theorem e7_T2 (hE : (envL Tryz.prog (some false) (some false) (some 2)).Ok Tryz.prog) (hO : OvOk ovT) : CodeTells Tryz.prog (envL Tryz.prog (some false) (some false) (some 2)) Tryz.f3 (cAt 6 (bodyOf Tryz.f3)) T2_6.T T2_6.H := tells_seq hE eqP_ok (ok_T2 hE hO).1 (ok_T2 hE hO).2 mixed_P T2_7 (by kernel_rfl) p7_T2 (e8_T2 hE hO)
theorem e6_T2 (hE : (envL Tryz.prog (some false) (some false) (some 2)).Ok Tryz.prog) (hO : OvOk ovT) : CodeTells Tryz.prog (envL Tryz.prog (some false) (some false) (some 2)) Tryz.f3 (cAt 5 (bodyOf Tryz.f3)) T2_5.T T2_5.H := tells_seq hE eqP_ok (ok_T2 hE hO).1 (ok_T2 hE hO).2 mixed_P T2_6 (by kernel_rfl) p6_T2 (e7_T2 hE hO)
theorem e5_T2 (hE : (envL Tryz.prog (some false) (some false) (some 2)).Ok Tryz.prog) (hO : OvOk ovT) : CodeTells Tryz.prog (envL Tryz.prog (some false) (some false) (some 2)) Tryz.f3 (cAt 4 (bodyOf Tryz.f3)) T2_4.T T2_4.H := tells_seq hE eqP_ok (ok_T2 hE hO).1 (ok_T2 hE hO).2 mixed_P T2_5 (by kernel_rfl) p5_T2 (e6_T2 hE hO)
theorem e4_T2 (hE : (envL Tryz.prog (some false) (some false) (some 2)).Ok Tryz.prog) (hO : OvOk ovT) : CodeTells Tryz.prog (envL Tryz.prog (some false) (some false) (some 2)) Tryz.f3 (cAt 3 (bodyOf Tryz.f3)) T2_3.T T2_3.H := tells_seq hE eqP_ok (ok_T2 hE hO).1 (ok_T2 hE hO).2 mixed_P T2_4 (by kernel_rfl) p4_T2 (e5_T2 hE hO)
theorem e3_T2 (hE : (envL Tryz.prog (some false) (some false) (some 2)).Ok Tryz.prog) (hO : OvOk ovT) : CodeTells Tryz.prog (envL Tryz.prog (some false) (some false) (some 2)) Tryz.f3 (cAt 2 (bodyOf Tryz.f3)) T2_2.T T2_2.H := tells_seq hE eqP_ok (ok_T2 hE hO).1 (ok_T2 hE hO).2 mixed_P T2_3 (by kernel_rfl) p3_T2 (e4_T2 hE hO)
theorem e2_T2 (hE : (envL Tryz.prog (some false) (some false) (some 2)).Ok Tryz.prog) (hO : OvOk ovT) : CodeTells Tryz.prog (envL Tryz.prog (some false) (some false) (some 2)) Tryz.f3 (cAt 1 (bodyOf Tryz.f3)) T2_1.T T2_1.H := tells_seq hE eqP_ok (ok_T2 hE hO).1 (ok_T2 hE hO).2 mixed_P T2_2 (by kernel_rfl) p2_T2 (e3_T2 hE hO)
theorem e1_T2 (hE : (envL Tryz.prog (some false) (some false) (some 2)).Ok Tryz.prog) (hO : OvOk ovT) : CodeTells Tryz.prog (envL Tryz.prog (some false) (some false) (some 2)) Tryz.f3 (cAt 0 (bodyOf Tryz.f3)) (atmps [vTok, .complex .f64 0 4] 0 .nil) (tabsH []) := tells_seq hE eqP_ok (ok_T2 hE hO).1 (ok_T2 hE hO).2 mixed_P T2_1 (by kernel_rfl) p1_T2 (e2_T2 hE hO)
theorem ok_T3 (hE : (envL Tryz.prog (some false) (some false) (some 3)).Ok Tryz.prog) (hO : OvOk ovT) : CallOk Tryz.prog (amT Tryz.prog 3).1 ∧ RoundOk Tryz.prog (amT Tryz.prog 3).2 := (amZ_ok hO hE eqP_ok mixed_P 60)
theorem okJ_T3 (hE : (envL Tryz.prog (some false) (some false) (some 3)).Ok Tryz.prog) (hO : OvOk ovT) : CallOk Tryz.prog (amJ_T3 Tryz.prog).1 ∧ RoundOk Tryz.prog (amJ_T3 Tryz.prog).2 := amZ_ok (fun call hc => hO _ (acallJ_ok amO_ok.1 row_T3 _ hc)) hE eqP_ok mixed_P 60
theorem okG_T3 (hE : (envL Tryz.prog (some false) (some false) (some 3)).Ok Tryz.prog) (hO : OvOk ovT) : CallOk Tryz.prog (amG_T3 Tryz.prog).1 ∧ RoundOk Tryz.prog (amG_T3 Tryz.prog).2 := amZ_ok (fun call hc => hO _ (acallZ_ok (okJ_T3 hE hO).1 beg_T3 _ (acallZ_ok (ok_T3 hE hO).1 pas_T3 _ hc))) hE eqP_ok mixed_P 60
theorem e11_T3 (hE : (envL Tryz.prog (some false) (some false) (some 3)).Ok Tryz.prog) (hO : OvOk ovT) : CodeTells Tryz.prog (envL Tryz.prog (some false) (some false) (some 3)) Tryz.f3 (cAt 10 (bodyOf Tryz.f3)) T3_10.T T3_10.H := tells_end hE eqP_ok (ok_T3 hE hO).1 (ok_T3 hE hO).2 mixed_P p11_T3
theorem e10_T3 (hE : (envL Tryz.prog (some false) (some false) (some 3)).Ok Tryz.prog) (hO : OvOk ovT) : CodeTells Tryz.prog (envL Tryz.prog (some false) (some false) (some 3)) Tryz.f3 (cAt 9 (bodyOf Tryz.f3)) T3_9.T T3_9.H := tells_seq hE eqP_ok (okG_T3 hE hO).1 (okG_T3 hE hO).2 mixed_P T3_10 (by kernel_rfl) p10_T3 (e11_T3 hE hO)
theorem e9_T3 (hE : (envL Tryz.prog (some false) (some false) (some 3)).Ok Tryz.prog) (hO : OvOk ovT) : CodeTells Tryz.prog (envL Tryz.prog (some false) (some false) (some 3)) Tryz.f3 (cAt 8 (bodyOf Tryz.f3)) T3_8.T T3_8.H := tells_seq hE eqP_ok (ok_T3 hE hO).1 (ok_T3 hE hO).2 mixed_P T3_9 (by kernel_rfl) p9_T3 (e10_T3 hE hO)
theorem e8_T3 (hE : (envL Tryz.prog (some false) (some false) (some 3)).Ok Tryz.prog) (hO : OvOk ovT) : CodeTells Tryz.prog (envL Tryz.prog (some false) (some false) (some 3)) Tryz.f3 (cAt 7 (bodyOf Tryz.f3)) T3_7.T T3_7.H := tells_seq hE eqP_ok (ok_T3 hE hO).1 (ok_T3 hE hO).2 mixed_P T3_8 (by kernel_rfl) p8_T3 (e9_T3 hE hO)
theorem e7_T3 (hE : (envL Tryz.prog (some false) (some false) (some 3)).Ok Tryz.prog) (hO : OvOk ovT) : CodeTells Tryz.prog (envL Tryz.prog (some false) (some false) (some 3)) Tryz.f3 (cAt 6 (bodyOf Tryz.f3)) T3_6.T T3_6.H := tells_seq hE eqP_ok (ok_T3 hE hO).1 (ok_T3 hE hO).2 mixed_P T3_7 (by kernel_rfl) p7_T3 (e8_T3 hE hO)
theorem e6_T3 (hE : (envL Tryz.prog (some false) (some false) (some 3)).Ok Tryz.prog) (hO : OvOk ovT) : CodeTells Tryz.prog (envL Tryz.prog (some false) (some false) (some 3)) Tryz.f3 (cAt 5 (bodyOf Tryz.f3)) T3_5.T T3_5.H := tells_seq hE eqP_ok (ok_T3 hE hO).1 (ok_T3 hE hO).2 mixed_P T3_6 (by kernel_rfl) p6_T3 (e7_T3 hE hO)
theorem e5_T3 (hE : (envL Tryz.prog (some false) (some false) (some 3)).Ok Tryz.prog) (hO : OvOk ovT) : CodeTells Tryz.prog (envL Tryz.prog (some false) (some false) (some 3)) Tryz.f3 (cAt 4 (bodyOf Tryz.f3)) T3_4.T T3_4.H := tells_seq hE eqP_ok (ok_T3 hE hO).1 (ok_T3 hE hO).2 mixed_P T3_5 (by kernel_rfl) p5_T3 (e6_T3 hE hO)
theorem e4_T3 (hE : (envL Tryz.prog (some false) (some false) (some 3)).Ok Tryz.prog) (hO : OvOk ovT) : CodeTells Tryz.prog (envL Tryz.prog (some false) (some false) (some 3)) Tryz.f3 (cAt 3 (bodyOf Tryz.f3)) T3_3.T T3_3.H := tells_seq hE eqP_ok (ok_T3 hE hO).1 (ok_T3 hE hO).2 mixed_P T3_4 (by kernel_rfl) p4_T3 (e5_T3 hE hO)
theorem e3_T3 (hE : (envL Tryz.prog (some false) (some false) (some 3)).Ok Tryz.prog) (hO : OvOk ovT) : CodeTells Tryz.prog (envL Tryz.prog (some false) (some false) (some 3)) Tryz.f3 (cAt 2 (bodyOf Tryz.f3)) T3_2.T T3_2.H := tells_seq hE eqP_ok (ok_T3 hE hO).1 (ok_T3 hE hO).2 mixed_P T3_3 (by kernel_rfl) p3_T3 (e4_T3 hE hO)
theorem e2_T3 (hE : (envL Tryz.prog (some false) (some false) (some 3)).Ok Tryz.prog) (hO : OvOk ovT) : CodeTells Tryz.prog (envL Tryz.prog (some false) (some false) (some 3)) Tryz.f3 (cAt 1 (bodyOf Tryz.f3)) T3_1.T T3_1.H := tells_seq hE eqP_ok (ok_T3 hE hO).1 (ok_T3 hE hO).2 mixed_P T3_2 (by kernel_rfl) p2_T3 (e3_T3 hE hO)
theorem e1_T3 (hE : (envL Tryz.prog (some false) (some false) (some 3)).Ok Tryz.prog) (hO : OvOk ovT) : CodeTells Tryz.prog (envL Tryz.prog (some false) (some false) (some 3)) Tryz.f3 (cAt 0 (bodyOf Tryz.f3)) (atmps [vTok, .complex .f64 0 4] 0 .nil) (tabsH []) := tells_seq hE eqP_ok (ok_T3 hE hO).1 (ok_T3 hE hO).2 mixed_P T3_1 (by kernel_rfl) p1_T3 (e2_T3 hE hO)
theorem ok_B0 (hE : (envL Tryz.prog none none (some 0)).Ok Tryz.prog) : CallOk Tryz.prog (amS Tryz.prog 0).1 ∧ RoundOk Tryz.prog (amS Tryz.prog 0).2 := (am_ok hE eqP_ok mixed_P 60)
theorem e11_B0 (hE : (envL Tryz.prog none none (some 0)).Ok Tryz.prog) : CodeTells Tryz.prog (envL Tryz.prog none none (some 0)) Tryz.f3 (cAt 10 (bodyOf Tryz.f3)) B0_10.T B0_10.H := tells_end hE eqP_ok (ok_B0 hE).1 (ok_B0 hE).2 mixed_P p11_B0
theorem e10_B0 (hE : (envL Tryz.prog none none (some 0)).Ok Tryz.prog) : CodeTells Tryz.prog (envL Tryz.prog none none (some 0)) Tryz.f3 (cAt 9 (bodyOf Tryz.f3)) B0_9.T B0_9.H := tells_seq hE eqP_ok (ok_B0 hE).1 (ok_B0 hE).2 mixed_P B0_10 (by kernel_rfl) p10_B0 (e11_B0 hE)
theorem e9_B0 (hE : (envL Tryz.prog none none (some 0)).Ok Tryz.prog) : CodeTells Tryz.prog (envL Tryz.prog none none (some 0)) Tryz.f3 (cAt 8 (bodyOf Tryz.f3)) B0_8.T B0_8.H := tells_seq hE eqP_ok (ok_B0 hE).1 (ok_B0 hE).2 mixed_P B0_9 (by kernel_rfl) p9_B0 (e10_B0 hE)
theorem e8_B0 (hE : (envL Tryz.prog none none (some 0)).Ok Tryz.prog) : CodeTells Tryz.prog (envL Tryz.prog none none (some 0)) Tryz.f3 (cAt 7 (bodyOf Tryz.f3)) B0_7.T B0_7.H := tells_seq hE eqP_ok (ok_B0 hE).1 (ok_B0 hE).2 mixed_P B0_8 (by kernel_rfl) p8_B0 (e9_B0 hE)
theorem e7_B0 (hE : (envL Tryz.prog none none (some 0)).Ok Tryz.prog) : CodeTells Tryz.prog (envL Tryz.prog none none (some 0)) Tryz.f3 (cAt 6 (bodyOf Tryz.f3)) B0_6.T B0_6.H := tells_seq hE eqP_ok (ok_B0 hE).1 (ok_B0 hE).2 mixed_P B0_7 (by kernel_rfl) p7_B0 (e8_B0 hE)
theorem e6_B0 (hE : (envL Tryz.prog none none (some 0)).Ok Tryz.prog) : CodeTells Tryz.prog (envL Tryz.prog none none (some 0)) Tryz.f3 (cAt 5 (bodyOf Tryz.f3)) B0_5.T B0_5.H := tells_seq hE eqP_ok (ok_B0 hE).1 (ok_B0 hE).2 mixed_P B0_6 (by kernel_rfl) p6_B0 (e7_B0 hE)
theorem e5_B0 (hE : (envL Tryz.prog none none (some 0)).Ok Tryz.prog) : CodeTells Tryz.prog (envL Tryz.prog none none (some 0)) Tryz.f3 (cAt 4 (bodyOf Tryz.f3)) B0_4.T B0_4.H := tells_seq hE eqP_ok (ok_B0 hE).1 (ok_B0 hE).2 mixed_P B0_5 (by kernel_rfl) p5_B0 (e6_B0 hE)
theorem okB_B0_1 (hE2 : (envL Tryz.prog none none none).Ok Tryz.prog) (hO : OvOk (ovB false)) : CallOk Tryz.prog (amB Tryz.prog false none).1 ∧ RoundOk Tryz.prog (amB Tryz.prog false none).2 := amZ_ok hO hE2 eqP_ok mixed_P 60
theorem e4_B0_1 (hE : (envL Tryz.prog none none (some 0)).Ok Tryz.prog) (hE2 : (envL Tryz.prog none none none).Ok Tryz.prog) (hO : OvOk (ovB false)) : CodeTells Tryz.prog (envL Tryz.prog none none (some 0)) Tryz.f3 (cAt 3 (bodyOf Tryz.f3)) B0_3.T B0_3.H := tells_seq2 hE2 eqP_ok (okB_B0_1 hE2 hO).1 (okB_B0_1 hE2 hO).2 mixed_P B0_4 (by kernel_rfl) p4_B0_1 (e5_B0 hE)
theorem e3_B0_1 (hE : (envL Tryz.prog none none (some 0)).Ok Tryz.prog) (hE2 : (envL Tryz.prog none none none).Ok Tryz.prog) (hO : OvOk (ovB false)) : CodeTells Tryz.prog (envL Tryz.prog none none (some 0)) Tryz.f3 (cAt 2 (bodyOf Tryz.f3)) B0_2.T B0_2.H := tells_seq2 hE2 eqP_ok (okB_B0_1 hE2 hO).1 (okB_B0_1 hE2 hO).2 mixed_P B0_3 (by kernel_rfl) p3_B0_1 (e4_B0_1 hE hE2 hO)
theorem e2_B0_1 (hE : (envL Tryz.prog none none (some 0)).Ok Tryz.prog) (hE2 : (envL Tryz.prog none none none).Ok Tryz.prog) (hO : OvOk (ovB false)) : CodeTells Tryz.prog (envL Tryz.prog none none (some 0)) Tryz.f3 (cAt 1 (bodyOf Tryz.f3)) B0_1.T B0_1.H := tells_seq2 hE2 eqP_ok (okB_B0_1 hE2 hO).1 (okB_B0_1 hE2 hO).2 mixed_P B0_2 (by kernel_rfl) p2_B0_1 (e3_B0_1 hE hE2 hO)
theorem e1_B0_1 (hE : (envL Tryz.prog none none (some 0)).Ok Tryz.prog) (hE2 : (envL Tryz.prog none none none).Ok Tryz.prog) (hO : OvOk (ovB false)) : CodeTells Tryz.prog (envL Tryz.prog none none (some 0)) Tryz.f3 (cAt 0 (bodyOf Tryz.f3)) (atmps [vTok, .complex .f64 0 4] 0 .nil) (tabsH []) := tells_seq2 hE2 eqP_ok (okB_B0_1 hE2 hO).1 (okB_B0_1 hE2 hO).2 mixed_P B0_1 (by kernel_rfl) p1_B0_1 (e2_B0_1 hE hE2 hO)
theorem okB_B0_2 (hE2 : (envL Tryz.prog none (some true) none).Ok Tryz.prog) (hO : OvOk (ovB true)) : CallOk Tryz.prog (amB Tryz.prog true (some true)).1 ∧ RoundOk Tryz.prog (amB Tryz.prog true (some true)).2 := amZ_ok hO hE2 eqP_ok mixed_P 60
theorem e4_B0_2 (hE : (envL Tryz.prog none none (some 0)).Ok Tryz.prog) (hE2 : (envL Tryz.prog none (some true) none).Ok Tryz.prog) (hO : OvOk (ovB true)) : CodeTells Tryz.prog (envL Tryz.prog none none (some 0)) Tryz.f3 (cAt 3 (bodyOf Tryz.f3)) B0_3.T B0_3.H := tells_seq2 hE2 eqP_ok (okB_B0_2 hE2 hO).1 (okB_B0_2 hE2 hO).2 mixed_P B0_4 (by kernel_rfl) p4_B0_2 (e5_B0 hE)
theorem e3_B0_2 (hE : (envL Tryz.prog none none (some 0)).Ok Tryz.prog) (hE2 : (envL Tryz.prog none (some true) none).Ok Tryz.prog) (hO : OvOk (ovB true)) : CodeTells Tryz.prog (envL Tryz.prog none none (some 0)) Tryz.f3 (cAt 2 (bodyOf Tryz.f3)) B0_2.T B0_2.H := tells_seq2 hE2 eqP_ok (okB_B0_2 hE2 hO).1 (okB_B0_2 hE2 hO).2 mixed_P B0_3 (by kernel_rfl) p3_B0_2 (e4_B0_2 hE hE2 hO)
theorem e2_B0_2 (hE : (envL Tryz.prog none none (some 0)).Ok Tryz.prog) (hE2 : (envL Tryz.prog none (some true) none).Ok Tryz.prog) (hO : OvOk (ovB true)) : CodeTells Tryz.prog (envL Tryz.prog none none (some 0)) Tryz.f3 (cAt 1 (bodyOf Tryz.f3)) B0_1.T B0_1.H := tells_seq2 hE2 eqP_ok (okB_B0_2 hE2 hO).1 (okB_B0_2 hE2 hO).2 mixed_P B0_2 (by kernel_rfl) p2_B0_2 (e3_B0_2 hE hE2 hO)
theorem e1_B0_2 (hE : (envL Tryz.prog none none (some 0)).Ok Tryz.prog) (hE2 : (envL Tryz.prog none (some true) none).Ok Tryz.prog) (hO : OvOk (ovB true)) : CodeTells Tryz.prog (envL Tryz.prog none none (some 0)) Tryz.f3 (cAt 0 (bodyOf Tryz.f3)) (atmps [vTok, .complex .f64 0 4] 0 .nil) (tabsH []) := tells_seq2 hE2 eqP_ok (okB_B0_2 hE2 hO).1 (okB_B0_2 hE2 hO).2 mixed_P B0_1 (by kernel_rfl) p1_B0_2 (e2_B0_2 hE hE2 hO)
theorem ok_B1 (hE : (envL Tryz.prog none none (some 1)).Ok Tryz.prog) : CallOk Tryz.prog (amS Tryz.prog 1).1 ∧ RoundOk Tryz.prog (amS Tryz.prog 1).2 := (am_ok hE eqP_ok mixed_P 60)
theorem e11_B1 (hE : (envL Tryz.prog none none (some 1)).Ok Tryz.prog) : CodeTells Tryz.prog (envL Tryz.prog none none (some 1)) Tryz.f3 (cAt 10 (bodyOf Tryz.f3)) B1_10.T B1_10.H := tells_end hE eqP_ok (ok_B1 hE).1 (ok_B1 hE).2 mixed_P p11_B1
theorem e10_B1 (hE : (envL Tryz.prog none none (some 1)).Ok Tryz.prog) : CodeTells Tryz.prog (envL Tryz.prog none none (some 1)) Tryz.f3 (cAt 9 (bodyOf Tryz.f3)) B1_9.T B1_9.H := tells_seq hE eqP_ok (ok_B1 hE).1 (ok_B1 hE).2 mixed_P B1_10 (by kernel_rfl) p10_B1 (e11_B1 hE)
theorem e9_B1 (hE : (envL Tryz.prog none none (some 1)).Ok Tryz.prog) : CodeTells Tryz.prog (envL Tryz.prog none none (some 1)) Tryz.f3 (cAt 8 (bodyOf Tryz.f3)) B1_8.T B1_8.H := tells_seq hE eqP_ok (ok_B1 hE).1 (ok_B1 hE).2 mixed_P B1_9 (by kernel_rfl) p9_B1 (e10_B1 hE)
theorem e8_B1 (hE : (envL Tryz.prog none none (some 1)).Ok Tryz.prog) : CodeTells Tryz.prog (envL Tryz.prog none none (some 1)) Tryz.f3 (cAt 7 (bodyOf Tryz.f3)) B1_7.T B1_7.H := tells_seq hE eqP_ok (ok_B1 hE).1 (ok_B1 hE).2 mixed_P B1_8 (by kernel_rfl) p8_B1 (e9_B1 hE)
theorem e7_B1 (hE : (envL Tryz.prog none none (some 1)).Ok Tryz.prog) : CodeTells Tryz.prog (envL Tryz.prog none none (some 1)) Tryz.f3 (cAt 6 (bodyOf Tryz.f3)) B1_6.T B1_6.H := tells_seq hE eqP_ok (ok_B1 hE).1 (ok_B1 hE).2 mixed_P B1_7 (by kernel_rfl) p7_B1 (e8_B1 hE)
theorem e6_B1 (hE : (envL Tryz.prog none none (some 1)).Ok Tryz.prog) : CodeTells Tryz.prog (envL Tryz.prog none none (some 1)) Tryz.f3 (cAt 5 (bodyOf Tryz.f3)) B1_5.T B1_5.H := tells_seq hE eqP_ok (ok_B1 hE).1 (ok_B1 hE).2 mixed_P B1_6 (by kernel_rfl) p6_B1 (e7_B1 hE)
theorem e5_B1 (hE : (envL Tryz.prog none none (some 1)).Ok Tryz.prog) : CodeTells Tryz.prog (envL Tryz.prog none none (some 1)) Tryz.f3 (cAt 4 (bodyOf Tryz.f3)) B1_4.T B1_4.H := tells_seq hE eqP_ok (ok_B1 hE).1 (ok_B1 hE).2 mixed_P B1_5 (by kernel_rfl) p5_B1 (e6_B1 hE)
theorem okB_B1_1 (hE2 : (envL Tryz.prog none none none).Ok Tryz.prog) (hO : OvOk (ovB false)) : CallOk Tryz.prog (amB Tryz.prog false none).1 ∧ RoundOk Tryz.prog (amB Tryz.prog false none).2 := amZ_ok hO hE2 eqP_ok mixed_P 60
theorem e4_B1_1 (hE : (envL Tryz.prog none none (some 1)).Ok Tryz.prog) (hE2 : (envL Tryz.prog none none none).Ok Tryz.prog) (hO : OvOk (ovB false)) : CodeTells Tryz.prog (envL Tryz.prog none none (some 1)) Tryz.f3 (cAt 3 (bodyOf Tryz.f3)) B1_3.T B1_3.H := tells_seq2 hE2 eqP_ok (okB_B1_1 hE2 hO).1 (okB_B1_1 hE2 hO).2 mixed_P B1_4 (by kernel_rfl) p4_B1_1 (e5_B1 hE)
theorem e3_B1_1 (hE : (envL Tryz.prog none none (some 1)).Ok Tryz.prog) (hE2 : (envL Tryz.prog none none none).Ok Tryz.prog) (hO : OvOk (ovB false)) : CodeTells Tryz.prog (envL Tryz.prog none none (some 1)) Tryz.f3 (cAt 2 (bodyOf Tryz.f3)) B1_2.T B1_2.H := tells_seq2 hE2 eqP_ok (okB_B1_1 hE2 hO).1 (okB_B1_1 hE2 hO).2 mixed_P B1_3 (by kernel_rfl) p3_B1_1 (e4_B1_1 hE hE2 hO)
theorem e2_B1_1 (hE : (envL Tryz.prog none none (some 1)).Ok Tryz.prog) (hE2 : (envL Tryz.prog none none none).Ok Tryz.prog) (hO : OvOk (ovB false)) : CodeTells Tryz.prog (envL Tryz.prog none none (some 1)) Tryz.f3 (cAt 1 (bodyOf Tryz.f3)) B1_1.T B1_1.H := tells_seq2 hE2 eqP_ok (okB_B1_1 hE2 hO).1 (okB_B1_1 hE2 hO).2 mixed_P B1_2 (by kernel_rfl) p2_B1_1 (e3_B1_1 hE hE2 hO)
theorem e1_B1_1 (hE : (envL Tryz.prog none none (some 1)).Ok Tryz.prog) (hE2 : (envL Tryz.prog none none none).Ok Tryz.prog) (hO : OvOk (ovB false)) : CodeTells Tryz.prog (envL Tryz.prog none none (some 1)) Tryz.f3 (cAt 0 (bodyOf Tryz.f3)) (atmps [vTok, .complex .f64 0 4] 0 .nil) (tabsH []) := tells_seq2 hE2 eqP_ok (okB_B1_1 hE2 hO).1 (okB_B1_1 hE2 hO).2 mixed_P B1_1 (by kernel_rfl) p1_B1_1 (e2_B1_1 hE hE2 hO)
theorem okB_B1_2 (hE2 : (envL Tryz.prog none (some true) none).Ok Tryz.prog) (hO : OvOk (ovB true)) : CallOk Tryz.prog (amB Tryz.prog true (some true)).1 ∧ RoundOk Tryz.prog (amB Tryz.prog true (some true)).2 := amZ_ok hO hE2 eqP_ok mixed_P 60
theorem e4_B1_2 (hE : (envL Tryz.prog none none (some 1)).Ok Tryz.prog) (hE2 : (envL Tryz.prog none (some true) none).Ok Tryz.prog) (hO : OvOk (ovB true)) : CodeTells Tryz.prog (envL Tryz.prog none none (some 1)) Tryz.f3 (cAt 3 (bodyOf Tryz.f3)) B1_3.T B1_3.H := tells_seq2 hE2 eqP_ok (okB_B1_2 hE2 hO).1 (okB_B1_2 hE2 hO).2 mixed_P B1_4 (by kernel_rfl) p4_B1_2 (e5_B1 hE)
theorem e3_B1_2 (hE : (envL Tryz.prog none none (some 1)).Ok Tryz.prog) (hE2 : (envL Tryz.prog none (some true) none).Ok Tryz.prog) (hO : OvOk (ovB true)) : CodeTells Tryz.prog (envL Tryz.prog none none (some 1)) Tryz.f3 (cAt 2 (bodyOf Tryz.f3)) B1_2.T B1_2.H := tells_seq2 hE2 eqP_ok (okB_B1_2 hE2 hO).1 (okB_B1_2 hE2 hO).2 mixed_P B1_3 (by kernel_rfl) p3_B1_2 (e4_B1_2 hE hE2 hO)
theorem e2_B1_2 (hE : (envL Tryz.prog none none (some 1)).Ok Tryz.prog) (hE2 : (envL Tryz.prog none (some true) none).Ok Tryz.prog) (hO : OvOk (ovB true)) : CodeTells Tryz.prog (envL Tryz.prog none none (some 1)) Tryz.f3 (cAt 1 (bodyOf Tryz.f3)) B1_1.T B1_1.H := tells_seq2 hE2 eqP_ok (okB_B1_2 hE2 hO).1 (okB_B1_2 hE2 hO).2 mixed_P B1_2 (by kernel_rfl) p2_B1_2 (e3_B1_2 hE hE2 hO)
theorem e1_B1_2 (hE : (envL Tryz.prog none none (some 1)).Ok Tryz.prog) (hE2 : (envL Tryz.prog none (some true) none).Ok Tryz.prog) (hO : OvOk (ovB true)) : CodeTells Tryz.prog (envL Tryz.prog none none (some 1)) Tryz.f3 (cAt 0 (bodyOf Tryz.f3)) (atmps [vTok, .complex .f64 0 4] 0 .nil) (tabsH []) := tells_seq2 hE2 eqP_ok (okB_B1_2 hE2 hO).1 (okB_B1_2 hE2 hO).2 mixed_P B1_1 (by kernel_rfl) p1_B1_2 (e2_B1_2 hE hE2 hO)
theorem ok_B2 (hE : (envL Tryz.prog none none (some 2)).Ok Tryz.prog) : CallOk Tryz.prog (amS Tryz.prog 2).1 ∧ RoundOk Tryz.prog (amS Tryz.prog 2).2 := (am_ok hE eqP_ok mixed_P 60)
theorem okJ_B2 (hE : (envL Tryz.prog none none (some 2)).Ok Tryz.prog) : CallOk Tryz.prog (amJ_B2 Tryz.prog).1 ∧ RoundOk Tryz.prog (amJ_B2 Tryz.prog).2 := amZ_ok (fun call hc => acallJ_ok amK_ok.1 row_B2 _ hc) hE eqP_ok mixed_P 60
theorem okG_B2 (hE : (envL Tryz.prog none none (some 2)).Ok Tryz.prog) : CallOk Tryz.prog (amG_B2 Tryz.prog).1 ∧ RoundOk Tryz.prog (amG_B2 Tryz.prog).2 := amZ_ok (fun call hc => acallZ_ok (okJ_B2 hE).1 beg_B2 _ (acallZ_ok (ok_B2 hE).1 pas_B2 _ hc)) hE eqP_ok mixed_P 60
theorem e11_B2 (hE : (envL Tryz.prog none none (some 2)).Ok Tryz.prog) : CodeTells Tryz.prog (envL Tryz.prog none none (some 2)) Tryz.f3 (cAt 10 (bodyOf Tryz.f3)) B2_10.T B2_10.H := tells_end hE eqP_ok (ok_B2 hE).1 (ok_B2 hE).2 mixed_P p11_B2
theorem e10_B2 (hE : (envL Tryz.prog none none (some 2)).Ok Tryz.prog) : CodeTells Tryz.prog (envL Tryz.prog none none (some 2)) Tryz.f3 (cAt 9 (bodyOf Tryz.f3)) B2_9.T B2_9.H := tells_seq hE eqP_ok (okG_B2 hE).1 (okG_B2 hE).2 mixed_P B2_10 (by kernel_rfl) p10_B2 (e11_B2 hE)
theorem e9_B2 (hE : (envL Tryz.prog none none (some 2)).Ok Tryz.prog) : CodeTells Tryz.prog (envL Tryz.prog none none (some 2)) Tryz.f3 (cAt 8 (bodyOf Tryz.f3)) B2_8.T B2_8.H := tells_seq hE eqP_ok (ok_B2 hE).1 (ok_B2 hE).2 mixed_P B2_9 (by kernel_rfl) p9_B2 (e10_B2 hE)
theorem e8_B2 (hE : (envL Tryz.prog none none (some 2)).Ok Tryz.prog) : CodeTells Tryz.prog (envL Tryz.prog none none (some 2)) Tryz.f3 (cAt 7 (bodyOf Tryz.f3)) B2_7.T B2_7.H := tells_seq hE eqP_ok (ok_B2 hE).1 (ok_B2 hE).2 mixed_P B2_8 (by kernel_rfl) p8_B2 (e9_B2 hE)
theorem e7_B2 (hE : (envL Tryz.prog none none (some 2)).Ok Tryz.prog) : CodeTells Tryz.prog (envL Tryz.prog none none (some 2)) Tryz.f3 (cAt 6 (bodyOf Tryz.f3)) B2_6.T B2_6.H := tells_seq hE eqP_ok (ok_B2 hE).1 (ok_B2 hE).2 mixed_P B2_7 (by kernel_rfl) p7_B2 (e8_B2 hE)
theorem e6_B2 (hE : (envL Tryz.prog none none (some 2)).Ok Tryz.prog) : CodeTells Tryz.prog (envL Tryz.prog none none (some 2)) Tryz.f3 (cAt 5 (bodyOf Tryz.f3)) B2_5.T B2_5.H := tells_seq hE eqP_ok (ok_B2 hE).1 (ok_B2 hE).2 mixed_P B2_6 (by kernel_rfl) p6_B2 (e7_B2 hE)
theorem e5_B2 (hE : (envL Tryz.prog none none (some 2)).Ok Tryz.prog) : CodeTells Tryz.prog (envL Tryz.prog none none (some 2)) Tryz.f3 (cAt 4 (bodyOf Tryz.f3)) B2_4.T B2_4.H := tells_seq hE eqP_ok (ok_B2 hE).1 (ok_B2 hE).2 mixed_P B2_5 (by kernel_rfl) p5_B2 (e6_B2 hE)
theorem okB_B2_1 (hE2 : (envL Tryz.prog none none none).Ok Tryz.prog) (hO : OvOk (ovB false)) : CallOk Tryz.prog (amB Tryz.prog false none).1 ∧ RoundOk Tryz.prog (amB Tryz.prog false none).2 := amZ_ok hO hE2 eqP_ok mixed_P 60
theorem e4_B2_1 (hE : (envL Tryz.prog none none (some 2)).Ok Tryz.prog) (hE2 : (envL Tryz.prog none none none).Ok Tryz.prog) (hO : OvOk (ovB false)) : CodeTells Tryz.prog (envL Tryz.prog none none (some 2)) Tryz.f3 (cAt 3 (bodyOf Tryz.f3)) B2_3.T B2_3.H := tells_seq2 hE2 eqP_ok (okB_B2_1 hE2 hO).1 (okB_B2_1 hE2 hO).2 mixed_P B2_4 (by kernel_rfl) p4_B2_1 (e5_B2 hE)
theorem e3_B2_1 (hE : (envL Tryz.prog none none (some 2)).Ok Tryz.prog) (hE2 : (envL Tryz.prog none none none).Ok Tryz.prog) (hO : OvOk (ovB false)) : CodeTells Tryz.prog (envL Tryz.prog none none (some 2)) Tryz.f3 (cAt 2 (bodyOf Tryz.f3)) B2_2.T B2_2.H := tells_seq2 hE2 eqP_ok (okB_B2_1 hE2 hO).1 (okB_B2_1 hE2 hO).2 mixed_P B2_3 (by kernel_rfl) p3_B2_1 (e4_B2_1 hE hE2 hO)
theorem e2_B2_1 (hE : (envL Tryz.prog none none (some 2)).Ok Tryz.prog) (hE2 : (envL Tryz.prog none none none).Ok Tryz.prog) (hO : OvOk (ovB false)) : CodeTells Tryz.prog (envL Tryz.prog none none (some 2)) Tryz.f3 (cAt 1 (bodyOf Tryz.f3)) B2_1.T B2_1.H := tells_seq2 hE2 eqP_ok (okB_B2_1 hE2 hO).1 (okB_B2_1 hE2 hO).2 mixed_P B2_2 (by kernel_rfl) p2_B2_1 (e3_B2_1 hE hE2 hO)
theorem e1_B2_1 (hE : (envL Tryz.prog none none (some 2)).Ok Tryz.prog) (hE2 : (envL Tryz.prog none none none).Ok Tryz.prog) (hO : OvOk (ovB false)) : CodeTells Tryz.prog (envL Tryz.prog none none (some 2)) Tryz.f3 (cAt 0 (bodyOf Tryz.f3)) (atmps [vTok, .complex .f64 0 4] 0 .nil) (tabsH []) := tells_seq2 hE2 eqP_ok (okB_B2_1 hE2 hO).1 (okB_B2_1 hE2 hO).2 mixed_P B2_1 (by kernel_rfl) p1_B2_1 (e2_B2_1 hE hE2 hO)
theorem okB_B2_2 (hE2 : (envL Tryz.prog none (some true) none).Ok Tryz.prog) (hO : OvOk (ovB true)) : CallOk Tryz.prog (amB Tryz.prog true (some true)).1 ∧ RoundOk Tryz.prog (amB Tryz.prog true (some true)).2 := amZ_ok hO hE2 eqP_ok mixed_P 60
theorem e4_B2_2 (hE : (envL Tryz.prog none none (some 2)).Ok Tryz.prog) (hE2 : (envL Tryz.prog none (some true) none).Ok Tryz.prog) (hO : OvOk (ovB true)) : CodeTells Tryz.prog (envL Tryz.prog none none (some 2)) Tryz.f3 (cAt 3 (bodyOf Tryz.f3)) B2_3.T B2_3.H := tells_seq2 hE2 eqP_ok (okB_B2_2 hE2 hO).1 (okB_B2_2 hE2 hO).2 mixed_P B2_4 (by kernel_rfl) p4_B2_2 (e5_B2 hE)
theorem e3_B2_2 (hE : (envL Tryz.prog none none (some 2)).Ok Tryz.prog) (hE2 : (envL Tryz.prog none (some true) none).Ok Tryz.prog) (hO : OvOk (ovB true)) : CodeTells Tryz.prog (envL Tryz.prog none none (some 2)) Tryz.f3 (cAt 2 (bodyOf Tryz.f3)) B2_2.T B2_2.H := tells_seq2 hE2 eqP_ok (okB_B2_2 hE2 hO).1 (okB_B2_2 hE2 hO).2 mixed_P B2_3 (by kernel_rfl) p3_B2_2 (e4_B2_2 hE hE2 hO)
theorem e2_B2_2 (hE : (envL Tryz.prog none none (some 2)).Ok Tryz.prog) (hE2 : (envL Tryz.prog none (some true) none).Ok Tryz.prog) (hO : OvOk (ovB true)) : CodeTells Tryz.prog (envL Tryz.prog none none (some 2)) Tryz.f3 (cAt 1 (bodyOf Tryz.f3)) B2_1.T B2_1.H := tells_seq2 hE2 eqP_ok (okB_B2_2 hE2 hO).1 (okB_B2_2 hE2 hO).2 mixed_P B2_2 (by kernel_rfl) p2_B2_2 (e3_B2_2 hE hE2 hO)
theorem e1_B2_2 (hE : (envL Tryz.prog none none (some 2)).Ok Tryz.prog) (hE2 : (envL Tryz.prog none (some true) none).Ok Tryz.prog) (hO : OvOk (ovB true)) : CodeTells Tryz.prog (envL Tryz.prog none none (some 2)) Tryz.f3 (cAt 0 (bodyOf Tryz.f3)) (atmps [vTok, .complex .f64 0 4] 0 .nil) (tabsH []) := tells_seq2 hE2 eqP_ok (okB_B2_2 hE2 hO).1 (okB_B2_2 hE2 hO).2 mixed_P B2_1 (by kernel_rfl) p1_B2_2 (e2_B2_2 hE hE2 hO)
theorem ok_B3 (hE : (envL Tryz.prog none none (some 3)).Ok Tryz.prog) : CallOk Tryz.prog (amS Tryz.prog 3).1 ∧ RoundOk Tryz.prog (amS Tryz.prog 3).2 := (am_ok hE eqP_ok mixed_P 60)
theorem okJ_B3 (hE : (envL Tryz.prog none none (some 3)).Ok Tryz.prog) : CallOk Tryz.prog (amJ_B3 Tryz.prog).1 ∧ RoundOk Tryz.prog (amJ_B3 Tryz.prog).2 := amZ_ok (fun call hc => acallJ_ok amK_ok.1 row_B3 _ hc) hE eqP_ok mixed_P 60
theorem okG_B3 (hE : (envL Tryz.prog none none (some 3)).Ok Tryz.prog) : CallOk Tryz.prog (amG_B3 Tryz.prog).1 ∧ RoundOk Tryz.prog (amG_B3 Tryz.prog).2 := amZ_ok (fun call hc => acallZ_ok (okJ_B3 hE).1 beg_B3 _ (acallZ_ok (ok_B3 hE).1 pas_B3 _ hc)) hE eqP_ok mixed_P 60
theorem e11_B3 (hE : (envL Tryz.prog none none (some 3)).Ok Tryz.prog) : CodeTells Tryz.prog (envL Tryz.prog none none (some 3)) Tryz.f3 (cAt 10 (bodyOf Tryz.f3)) B3_10.T B3_10.H := tells_end hE eqP_ok (ok_B3 hE).1 (ok_B3 hE).2 mixed_P p11_B3
theorem e10_B3 (hE : (envL Tryz.prog none none (some 3)).Ok Tryz.prog) : CodeTells Tryz.prog (envL Tryz.prog none none (some 3)) Tryz.f3 (cAt 9 (bodyOf Tryz.f3)) B3_9.T B3_9.H := tells_seq hE eqP_ok (okG_B3 hE).1 (okG_B3 hE).2 mixed_P B3_10 (by kernel_rfl) p10_B3 (e11_B3 hE)
theorem e9_B3 (hE : (envL Tryz.prog none none (some 3)).Ok Tryz.prog) : CodeTells Tryz.prog (envL Tryz.prog none none (some 3)) Tryz.f3 (cAt 8 (bodyOf Tryz.f3)) B3_8.T B3_8.H := tells_seq hE eqP_ok (ok_B3 hE).1 (ok_B3 hE).2 mixed_P B3_9 (by kernel_rfl) p9_B3 (e10_B3 hE)
theorem e8_B3 (hE : (envL Tryz.prog none none (some 3)).Ok Tryz.prog) : CodeTells Tryz.prog (envL Tryz.prog none none (some 3)) Tryz.f3 (cAt 7 (bodyOf Tryz.f3)) B3_7.T B3_7.H := tells_seq hE eqP_ok (ok_B3 hE).1 (ok_B3 hE).2 mixed_P B3_8 (by kernel_rfl) p8_B3 (e9_B3 hE)
theorem e7_B3 (hE : (envL Tryz.prog none none (some 3)).Ok Tryz.prog) : CodeTells Tryz.prog (envL Tryz.prog none none (some 3)) Tryz.f3 (cAt 6 (bodyOf Tryz.f3)) B3_6.T B3_6.H := tells_seq hE eqP_ok (ok_B3 hE).1 (ok_B3 hE).2 mixed_P B3_7 (by kernel_rfl) p7_B3 (e8_B3 hE)
theorem e6_B3 (hE : (envL Tryz.prog none none (some 3)).Ok Tryz.prog) : CodeTells Tryz.prog (envL Tryz.prog none none (some 3)) Tryz.f3 (cAt 5 (bodyOf Tryz.f3)) B3_5.T B3_5.H := tells_seq hE eqP_ok (ok_B3 hE).1 (ok_B3 hE).2 mixed_P B3_6 (by kernel_rfl) p6_B3 (e7_B3 hE)
theorem e5_B3 (hE : (envL Tryz.prog none none (some 3)).Ok Tryz.prog) : CodeTells Tryz.prog (envL Tryz.prog none none (some 3)) Tryz.f3 (cAt 4 (bodyOf Tryz.f3)) B3_4.T B3_4.H := tells_seq hE eqP_ok (ok_B3 hE).1 (ok_B3 hE).2 mixed_P B3_5 (by kernel_rfl) p5_B3 (e6_B3 hE)
theorem okB_B3_1 (hE2 : (envL Tryz.prog none none none).Ok Tryz.prog) (hO : OvOk (ovB false)) : CallOk Tryz.prog (amB Tryz.prog false none).1 ∧ RoundOk Tryz.prog (amB Tryz.prog false none).2 := amZ_ok hO hE2 eqP_ok mixed_P 60
theorem e4_B3_1 (hE : (envL Tryz.prog none none (some 3)).Ok Tryz.prog) (hE2 : (envL Tryz.prog none none none).Ok Tryz.prog) (hO : OvOk (ovB false)) : CodeTells Tryz.prog (envL Tryz.prog none none (some 3)) Tryz.f3 (cAt 3 (bodyOf Tryz.f3)) B3_3.T B3_3.H := tells_seq2 hE2 eqP_ok (okB_B3_1 hE2 hO).1 (okB_B3_1 hE2 hO).2 mixed_P B3_4 (by kernel_rfl) p4_B3_1 (e5_B3 hE)
theorem e3_B3_1 (hE : (envL Tryz.prog none none (some 3)).Ok Tryz.prog) (hE2 : (envL Tryz.prog none none none).Ok Tryz.prog) (hO : OvOk (ovB false)) : CodeTells Tryz.prog (envL Tryz.prog none none (some 3)) Tryz.f3 (cAt 2 (bodyOf Tryz.f3)) B3_2.T B3_2.H := tells_seq2 hE2 eqP_ok (okB_B3_1 hE2 hO).1 (okB_B3_1 hE2 hO).2 mixed_P B3_3 (by kernel_rfl) p3_B3_1 (e4_B3_1 hE hE2 hO)
theorem e2_B3_1 (hE : (envL Tryz.prog none none (some 3)).Ok Tryz.prog) (hE2 : (envL Tryz.prog none none none).Ok Tryz.prog) (hO : OvOk (ovB false)) : CodeTells Tryz.prog (envL Tryz.prog none none (some 3)) Tryz.f3 (cAt 1 (bodyOf Tryz.f3)) B3_1.T B3_1.H := tells_seq2 hE2 eqP_ok (okB_B3_1 hE2 hO).1 (okB_B3_1 hE2 hO).2 mixed_P B3_2 (by kernel_rfl) p2_B3_1 (e3_B3_1 hE hE2 hO)
theorem e1_B3_1 (hE : (envL Tryz.prog none none (some 3)).Ok Tryz.prog) (hE2 : (envL Tryz.prog none none none).Ok Tryz.prog) (hO : OvOk (ovB false)) : CodeTells Tryz.prog (envL Tryz.prog none none (some 3)) Tryz.f3 (cAt 0 (bodyOf Tryz.f3)) (atmps [vTok, .complex .f64 0 4] 0 .nil) (tabsH []) := tells_seq2 hE2 eqP_ok (okB_B3_1 hE2 hO).1 (okB_B3_1 hE2 hO).2 mixed_P B3_1 (by kernel_rfl) p1_B3_1 (e2_B3_1 hE hE2 hO)
theorem okB_B3_2 (hE2 : (envL Tryz.prog none (some true) none).Ok Tryz.prog) (hO : OvOk (ovB true)) : CallOk Tryz.prog (amB Tryz.prog true (some true)).1 ∧ RoundOk Tryz.prog (amB Tryz.prog true (some true)).2 := amZ_ok hO hE2 eqP_ok mixed_P 60
theorem e4_B3_2 (hE : (envL Tryz.prog none none (some 3)).Ok Tryz.prog) (hE2 : (envL Tryz.prog none (some true) none).Ok Tryz.prog) (hO : OvOk (ovB true)) : CodeTells Tryz.prog (envL Tryz.prog none none (some 3)) Tryz.f3 (cAt 3 (bodyOf Tryz.f3)) B3_3.T B3_3.H := tells_seq2 hE2 eqP_ok (okB_B3_2 hE2 hO).1 (okB_B3_2 hE2 hO).2 mixed_P B3_4 (by kernel_rfl) p4_B3_2 (e5_B3 hE)
theorem e3_B3_2 (hE : (envL Tryz.prog none none (some 3)).Ok Tryz.prog) (hE2 : (envL Tryz.prog none (some true) none).Ok Tryz.prog) (hO : OvOk (ovB true)) : CodeTells Tryz.prog (envL Tryz.prog none none (some 3)) Tryz.f3 (cAt 2 (bodyOf Tryz.f3)) B3_2.T B3_2.H := tells_seq2 hE2 eqP_ok (okB_B3_2 hE2 hO).1 (okB_B3_2 hE2 hO).2 mixed_P B3_3 (by kernel_rfl) p3_B3_2 (e4_B3_2 hE hE2 hO)
theorem e2_B3_2 (hE : (envL Tryz.prog none none (some 3)).Ok Tryz.prog) (hE2 : (envL Tryz.prog none (some true) none).Ok Tryz.prog) (hO : OvOk (ovB true)) : CodeTells Tryz.prog (envL Tryz.prog none none (some 3)) Tryz.f3 (cAt 1 (bodyOf Tryz.f3)) B3_1.T B3_1.H := tells_seq2 hE2 eqP_ok (okB_B3_2 hE2 hO).1 (okB_B3_2 hE2 hO).2 mixed_P B3_2 (by kernel_rfl) p2_B3_2 (e3_B3_2 hE hE2 hO)
theorem e1_B3_2 (hE : (envL Tryz.prog none none (some 3)).Ok Tryz.prog) (hE2 : (envL Tryz.prog none (some true) none).Ok Tryz.prog) (hO : OvOk (ovB true)) : CodeTells Tryz.prog (envL Tryz.prog none none (some 3)) Tryz.f3 (cAt 0 (bodyOf Tryz.f3)) (atmps [vTok, .complex .f64 0 4] 0 .nil) (tabsH []) := tells_seq2 hE2 eqP_ok (okB_B3_2 hE2 hO).1 (okB_B3_2 hE2 hO).2 mixed_P B3_1 (by kernel_rfl) p1_B3_2 (e2_B3_2 hE hE2 hO)
end AM
end Go.Proofs.YtgdkdmcjjcgcaaaGreatDoor
namespace Go.Proofs.YtgdkdmcjjcgcaaaGreatDoor
namespace AM
open Go.RowKit
/-- The tokens: 0..3 the value's numbers, 4 how many, 5 the same as an int, 6 the text's length. -/
abbrev toks (x : Val) (n : Int) : Toks where
  kd k := match k with
    | 4 => .u8
    | _ => .i64
  i k := match k with
    | 0 => x.kind
    | 1 => x.mant
    | 2 => x.exp
    | 3 => x.fault
    | 4 => n
    | 5 => n
    | 6 => x.text.size
    | _ => 0
  s _ := x.text
  b _ := x.truth
set_option maxRecDepth 100000 in
theorem tab_ok (x : Val) (n : Int) (h0 : 0 ≤ n) (h1 : n ≤ 255) (z g : Option Bool) (j : Option Int) (hz : ∀ b, z = some b → (x.kind == 0) = b) (hg : ∀ b, g = some b → decide ((100 : Int) < x.text.size) = b) (hj : ∀ i, j = some i → n % 4 = i) :
    letI := toks x n
    (tab z g j).Ok Tryz.prog := by
  letI := toks x n
  refine ⟨fun k q u b h => ?_, (fun k s b h => by cases h), (fun k c b h => by cases h), fun op k u r h ty w => ?_, fun s d k i h w => ?_, fun k i h => ?_⟩
  · simp only [tab] at h
    split at h
    · exact ⟨rfl, hz b h⟩
    · cases h
  · simp only [tab] at h
    split at h
    · split at h
      · rename_i i
        cases h
        have := hj i rfl
        show (binOp .rem ty (.int .i64 n) (.int .i64 4)).run Tryz.prog w = .ok (.int .i64 i) w
        have e : n.tmod 4 = i := by rw [Int.tmod_eq_emod_of_nonneg h0]; exact this
        simp [binOp, Op.intDiv, go_sem, e]
      · cases h
    · split at h
      · rename_i c
        cases h
        have := hg c rfl
        show (binOp .gtr ty (.int .i64 (x.text.size : Int)) (.int .i64 100)).run Tryz.prog w = .ok (.bool c) w
        rw [← this]
        simp [binOp, Op.intCmp, go_sem]
      · cases h
    · split at h
      · rename_i c
        cases h
        have := hz c rfl
        show (binOp .eql ty (.int .i64 x.kind) (.int .i64 0)).run Tryz.prog w = .ok (.bool c) w
        rw [← this]
        simp [binOp, Op.intCmp, go_sem]
      · cases h
    · split at h
      · rename_i c
        cases h
        have := hz c rfl
        show (binOp .neq ty (.int .i64 x.kind) (.int .i64 0)).run Tryz.prog w = .ok (.bool !c) w
        rw [← this]
        simp [binOp, Op.intCmp, go_sem]
        rfl
      · cases h
    · cases h
  · simp only [tab] at h
    split at h
    · cases h
      show (convert 5 3 (.int .u8 n)).run Tryz.prog w = .ok (.int .i64 n) w
      simp [convert, Conv.intToInt, go_sem, Tryz.underlying5, Tryz.underlying3]
      simp only [IntKind.wrap, IntKind.signed, IntKind.bits]
      simp
      omega
    · cases h
  · simp only [tab] at h
    split at h
    · cases h; exact ⟨rfl, rfl⟩
    · cases h
section
variable (x : Val) (n : Int) (h0 : 0 ≤ n) (h1 : n ≤ 255)
abbrev vOf : Value := .agg #[.int .i64 x.kind, .int .i64 x.mant, .int .i64 x.exp, .string x.text, .bool x.truth, .int .i64 x.fault]
abbrev cOf : Value := .agg #[.int .i64 1, .int .i64 x.kind, .int .i64 x.mant, .int .i64 x.exp, .string x.text, .bool x.truth, .int .i64 x.fault, .int .i64 0, .int .i64 0, .int .i64 0, .int .i64 0, .string ⟨#[]⟩, .bool false, .int .i64 0, .string ⟨#[]⟩, .int .i64 0, .int .i64 0, .int .i64 0, .int .i64 0, .bool false, .bool false, .int .i64 0, .int .i64 0, .int .i64 0, .int .i64 0, .bool false, .bool false, .int .i64 0, .slice none 0 0]
theorem vconc_v : letI := toks x n; lconc (vconc 8) [vTok] = some [vOf x] := by rfl
theorem vconc_c : letI := toks x n; lconc (vconc 8) [cTok] = some [cOf x] := by rfl
theorem vconc_a : letI := toks x n; lconc (vconc 8) [vTok, .complex .f64 0 4] = some [vOf x, .int .u8 n] := by rfl
/-- counterpaneref18.Right of the content, the tokens in place of the value. -/
abbrev amR (b : Bool) (z : Option Bool) [Toks] (P : Program) : ACall × ARound := amZ (acallK 17 [vTok] (.bool b)) P (envL P z none none) eqP 1000 [250] 60
theorem r_zero [Toks] : tellsV ((am Tryz.prog (envL Tryz.prog (some true) none none) eqP 1000 [250] 60).1 5 [cTok] (tabsH [])) (.bool false) = true := by kernel_rfl
theorem r_bad [Toks] : tellsV ((amR false (some false) Tryz.prog).1 5 [cTok] (tabsH [])) (.bool false) = true := by kernel_rfl
theorem r_good [Toks] : tellsV ((amR true (some false) Tryz.prog).1 5 [cTok] (tabsH [])) (.bool true) = true := by kernel_rfl
abbrev Tells (f : Nat) (args : Array Value) (b : Bool) : Prop := ∀ w, Calls Tryz.prog f args w fun e w' => e = .returned (.bool b) ∧ Below w.heap.size w w'
theorem of_iff {f : Nat} {args : Array Value} {p : Prop} (h : ∀ w, Calls Tryz.prog f args w fun e w' => ∃ b : Bool, e = .returned (.bool b) ∧ (b = true ↔ p) ∧ Below w.heap.size w w') (b : Bool) (hb : b = true ↔ p) : Tells f args b := fun w => (h w).mono fun e w' ⟨c, hc, hp, B⟩ => by
  have : c = b := by cases b <;> cases c <;> simp_all
  subst this
  exact ⟨hc, B⟩
theorem right41 (hm : Fits x.mant) (he : Fits x.exp) (b : Bool) (hb : b = true ↔ RightV x) : Tells 41 #[vOf x] b :=
  of_iff (fun w => vright_c x hm.1 hm.2 he.1 he.2 w) b hb
theorem right17 (hm : Fits x.mant) (he : Fits x.exp) (b : Bool) (hb : b = true ↔ RightV x) : Tells 17 #[vOf x] b :=
  of_iff (fun w => rrightV_c x hm.1 hm.2 he.1 he.2 w) b hb
include h0 h1 in
theorem right5 (hm : Fits x.mant) (he : Fits x.exp) (b : Bool) (hb : b = true ↔ x.kind ≠ 0 ∧ RightV x) : Tells 5 #[cOf x] b := by
  letI := toks x n
  by_cases hk : x.kind = 0
  · have : b = false := by cases b with
      | false => rfl
      | true => exact absurd hk (hb.1 rfl).1
    subst this
    have hE : (envL Tryz.prog (some true) none none).Ok Tryz.prog := envP_ok.tok (tab_ok x n h0 h1 _ _ _ (fun b e => by cases e; simpa using hk) (fun _ e => by cases e) (fun _ e => by cases e))
    exact fun w => calls_of_am (am_ok hE eqP_ok mixed_P 60).1 (vconc_c x n) (by rfl) r_zero w
  · have hE : (envL Tryz.prog (some false) none none).Ok Tryz.prog := envP_ok.tok (tab_ok x n h0 h1 _ _ _ (fun b e => by cases e; simpa using hk) (fun _ e => by cases e) (fun _ e => by cases e))
    cases b with
    | false =>
      have hr : ¬ RightV x := fun r => absurd (hb.2 ⟨hk, r⟩) Bool.false_ne_true
      exact fun w => calls_of_am (amZ_ok (fun call hc => known_ok (vconc_v x n) (by rfl) (right17 x hm he false ⟨(fun h => by cases h), fun h => absurd h hr⟩) call hc) hE eqP_ok mixed_P 60).1 (vconc_c x n) (by rfl) r_bad w
    | true =>
      have hr : RightV x := (hb.1 rfl).2
      exact fun w => calls_of_am (amZ_ok (fun call hc => known_ok (vconc_v x n) (by rfl) (right17 x hm he true ⟨fun _ => hr, fun _ => rfl⟩) call hc) hE eqP_ok mixed_P 60).1 (vconc_c x n) (by rfl) r_good w
include h0 h1 in
theorem told_end (w : World) {E : Env} (hE : letI := toks x n; E.Ok Tryz.prog) (h : letI := toks x n; CodeTells Tryz.prog E Tryz.f3 (cAt 0 (bodyOf Tryz.f3)) (atmps [vTok, .complex .f64 0 4] 0 .nil) (tabsH [])) :
    Calls Tryz.prog 3 #[vOf x, .int .u8 n] w fun e w' => e = .returned (.bool true) ∧ Below w.heap.size w w' := by
  letI := toks x n
  refine (tells_calls hE Tryz.func3 (by kernel_rfl) (vs := [vTok, .complex .f64 0 4]) (by kernel_rfl) (rel_tabs (ts := []) (w := w) (by rfl) (fun x hx => by simp at hx)) (by simpa using lconc_lr (vconc_vr (mapAt w) 8) _ _ (vconc_a x n)) h).mono ?_
  rintro e w' ⟨rfl, K, ν, k2⟩
  exact ⟨rfl, k2.os, k2.tape, k2.output, k2.size, fun k hk => k2.keep k hk⟩
include h0 h1 in
theorem told_c (hm : Fits x.mant) (he : Fits x.exp) (w : World) : Calls Tryz.prog 3 #[vOf x, .int .u8 n] w fun e w' => e = .returned (.bool true) ∧ Below w.heap.size w w' := by
  letI := toks x n
  have hj : n % 4 = 0 ∨ n % 4 = 1 ∨ n % 4 = 2 ∨ n % 4 = 3 := by omega
  have EN : ∀ j : Int, n % 4 = j → (envL Tryz.prog none none (some j)).Ok Tryz.prog := fun j hj => envP_ok.tok (tab_ok x n h0 h1 _ _ _ (fun _ e => by cases e) (fun _ e => by cases e) (fun i e => by cases e; exact hj))
  have E0 : (envL Tryz.prog none none none).Ok Tryz.prog := envP_ok.tok (tab_ok x n h0 h1 _ _ _ (fun _ e => by cases e) (fun _ e => by cases e) (fun _ e => by cases e))
  by_cases hr : x.kind ≠ 0 ∧ RightV x
  · have R5 := right5 x n h0 h1 hm he true ⟨fun _ => hr, fun _ => rfl⟩
    by_cases hg : (100 : Int) < x.text.size
    · have E2 : (envL Tryz.prog none (some true) none).Ok Tryz.prog := envP_ok.tok (tab_ok x n h0 h1 _ _ _ (fun _ e => by cases e) (fun b e => by cases e; exact decide_eq_true hg) (fun _ e => by cases e))
      have hO : OvOk (ovB true) := fun call hc => acallX_ok (known_ok (vconc_c x n) (by rfl) R5 call hc) awake4
      rcases hj with h | h | h | h
      · exact told_end x n h0 h1 w (EN _ h) (e1_B0_2 (EN _ h) E2 hO)
      · exact told_end x n h0 h1 w (EN _ h) (e1_B1_2 (EN _ h) E2 hO)
      · exact told_end x n h0 h1 w (EN _ h) (e1_B2_2 (EN _ h) E2 hO)
      · exact told_end x n h0 h1 w (EN _ h) (e1_B3_2 (EN _ h) E2 hO)
    · have ET : ∀ j : Int, n % 4 = j → (envL Tryz.prog (some false) (some false) (some j)).Ok Tryz.prog := fun j hj => envP_ok.tok (tab_ok x n h0 h1 _ _ _ (fun b e => by cases e; simpa using hr.1) (fun b e => by cases e; exact decide_eq_false hg) (fun i e => by cases e; exact hj))
      have hO : OvOk ovT := fun call hc => acallX_ok (known_ok (vconc_c x n) (by rfl) R5 _ (known_ok (vconc_v x n) (by rfl) (right41 x hm he true ⟨fun _ => hr.2, fun _ => rfl⟩) call hc)) awake4
      rcases hj with h | h | h | h
      · exact told_end x n h0 h1 w (ET _ h) (e1_T0 (ET _ h) hO)
      · exact told_end x n h0 h1 w (ET _ h) (e1_T1 (ET _ h) hO)
      · exact told_end x n h0 h1 w (ET _ h) (e1_T2 (ET _ h) hO)
      · exact told_end x n h0 h1 w (ET _ h) (e1_T3 (ET _ h) hO)
  · have R5 := right5 x n h0 h1 hm he false ⟨(fun h => by cases h), fun h => absurd h hr⟩
    have hO : OvOk (ovB false) := fun call hc => acallX_ok (known_ok (vconc_c x n) (by rfl) R5 call hc) awake4
    rcases hj with h | h | h | h
    · exact told_end x n h0 h1 w (EN _ h) (e1_B0_1 (EN _ h) E0 hO)
    · exact told_end x n h0 h1 w (EN _ h) (e1_B1_1 (EN _ h) E0 hO)
    · exact told_end x n h0 h1 w (EN _ h) (e1_B2_1 (EN _ h) E0 hO)
    · exact told_end x n h0 h1 w (EN _ h) (e1_B3_1 (EN _ h) E0 hO)
end
end AM
end Go.Proofs.YtgdkdmcjjcgcaaaGreatDoor
