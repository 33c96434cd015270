/-
  Five cells come sorted out of their map, whichever way it is walked. No condition.
-/
import Derived.Test.YtgdkdmcjjcgcaaaGreatDoorCT3
import Derived.Test.YtgdkdmcjjcgcaaaGreatDoorCS0
import Derived.Test.YtgdkdmcjjcgcaaaGreatDoorCS1
import Derived.Test.YtgdkdmcjjcgcaaaGreatDoorCS2
import Derived.Test.YtgdkdmcjjcgcaaaGreatDoorCS3
set_option linter.unusedSectionVars false
namespace Go.Proofs.YtgdkdmcjjcgcaaaGreatDoor
namespace AM
open Go.RowKit
variable [Toks]
def ovS (call : ACall) : ACall := acallVs 299 asS srt0 (acallVs 299 asS srt1 (acallVs 299 asS srt2 (acallVs 299 asS srt3 (acallVs 299 asS srt4 (acallVs 299 asS srt5 (acallVs 299 asS srt6 (acallVs 299 asS srt7 (acallVs 299 asS srt8 (acallVs 299 asS srt9 (acallVs 299 asS srt10 (acallVs 299 asS srt11 (ovK call))))))))))))
theorem ovS_ok (call : ACall) (hc : CallOk Tryz.prog call) : CallOk Tryz.prog (ovS call) := acallVs_ok amK_ok.1 _ srt0_ok _ (acallVs_ok amK_ok.1 _ srt1_ok _ (acallVs_ok amK_ok.1 _ srt2_ok _ (acallVs_ok amK_ok.1 _ srt3_ok _ (acallVs_ok amK_ok.1 _ srt4_ok _ (acallVs_ok amK_ok.1 _ srt5_ok _ (acallVs_ok amK_ok.1 _ srt6_ok _ (acallVs_ok amK_ok.1 _ srt7_ok _ (acallVs_ok amK_ok.1 _ srt8_ok _ (acallVs_ok amK_ok.1 _ srt9_ok _ (acallVs_ok amK_ok.1 _ srt10_ok _ (acallVs_ok amK_ok.1 _ srt11_ok _ (ovK_ok call hc))))))))))))
def amO (P : Program) : ACall × ARound := amZ ovS P (envP P) eqP 1000 [] 60
theorem amO_ok : CallOk Tryz.prog (amO Tryz.prog).1 ∧ RoundOk Tryz.prog (amO Tryz.prog).2 := amZ_ok ovS_ok envP_ok eqP_ok mixed_P 60
theorem row_T3 : givesR ((amO Tryz.prog).1 250 asJ_T3 (roH XJ_T3.H)) rowJ_T3 = true := by kernel_rfl
end AM
end Go.Proofs.YtgdkdmcjjcgcaaaGreatDoor
