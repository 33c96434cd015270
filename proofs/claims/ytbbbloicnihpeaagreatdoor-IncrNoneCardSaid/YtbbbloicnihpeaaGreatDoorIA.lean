/-
  IncrNone: its awake tells true; so does the law. No condition.
-/
import Derived.Test.YtbbbloicnihpeaaGreatDoorIS1
import Derived.Test.YtbbbloicnihpeaaGreatDoorIS2
import Derived.Test.YtbbbloicnihpeaaGreatDoorIS3
import Derived.Test.YtbbbloicnihpeaaGreatDoorIS4
import Derived.Test.YtbbbloicnihpeaaGreatDoorIS5
import Derived.Test.YtbbbloicnihpeaaGreatDoorIS6
import Derived.Test.YtbbbloicnihpeaaGreatDoorIS7
import Derived.Test.YtbbbloicnihpeaaGreatDoorIS8
import Derived.Test.YtbbbloicnihpeaaGreatDoorIS9
import Derived.Test.YtbbbloicnihpeaaGreatDoorIS10
import Derived.Test.YtbbbloicnihpeaaGreatDoorIS11
import Derived.Test.YtbbbloicnihpeaaGreatDoorIS12
import Derived.Test.YtbbbloicnihpeaaGreatDoorIY1
import Derived.Test.YtbbbloicnihpeaaGreatDoorIY2
namespace Go.Proofs.YtbbbloicnihpeaaGreatDoor
open Go.RowKit
theorem amQ_ok : CallOk Tryz.prog (amQ Tryz.prog).1 ∧ RoundOk Tryz.prog (amQ Tryz.prog).2 := amZ_ok (fun call hc => acallZ_ok amP_ok.1 ov1 _ (acallZ_ok amP_ok.1 ov2 _ (hc))) envP_ok eqP_ok mixed_P 60
theorem end12 : CodeTells Tryz.prog (envP Tryz.prog) Tryz.f4 (cAt 11 (bodyOf Tryz.f4)) S11.T S11.H := tells_end envP_ok eqP_ok amP_ok.1 amP_ok.2 mixed_P part12
theorem end11 : CodeTells Tryz.prog (envP Tryz.prog) Tryz.f4 (cAt 10 (bodyOf Tryz.f4)) S10.T S10.H := tells_seq envP_ok eqP_ok amQ_ok.1 amQ_ok.2 mixed_P S11 (by kernel_rfl) part11 end12
theorem end10 : CodeTells Tryz.prog (envP Tryz.prog) Tryz.f4 (cAt 9 (bodyOf Tryz.f4)) S9.T S9.H := tells_seq envP_ok eqP_ok amP_ok.1 amP_ok.2 mixed_P S10 (by kernel_rfl) part10 end11
theorem end9 : CodeTells Tryz.prog (envP Tryz.prog) Tryz.f4 (cAt 8 (bodyOf Tryz.f4)) S8.T S8.H := tells_seq envP_ok eqP_ok amP_ok.1 amP_ok.2 mixed_P S9 (by kernel_rfl) part9 end10
theorem end8 : CodeTells Tryz.prog (envP Tryz.prog) Tryz.f4 (cAt 7 (bodyOf Tryz.f4)) S7.T S7.H := tells_seq envP_ok eqP_ok amQ_ok.1 amQ_ok.2 mixed_P S8 (by kernel_rfl) part8 end9
theorem end7 : CodeTells Tryz.prog (envP Tryz.prog) Tryz.f4 (cAt 6 (bodyOf Tryz.f4)) S6.T S6.H := tells_seq envP_ok eqP_ok amP_ok.1 amP_ok.2 mixed_P S7 (by kernel_rfl) part7 end8
theorem end6 : CodeTells Tryz.prog (envP Tryz.prog) Tryz.f4 (cAt 5 (bodyOf Tryz.f4)) S5.T S5.H := tells_seq envP_ok eqP_ok amP_ok.1 amP_ok.2 mixed_P S6 (by kernel_rfl) part6 end7
theorem end5 : CodeTells Tryz.prog (envP Tryz.prog) Tryz.f4 (cAt 4 (bodyOf Tryz.f4)) S4.T S4.H := tells_seq envP_ok eqP_ok amP_ok.1 amP_ok.2 mixed_P S5 (by kernel_rfl) part5 end6
theorem end4 : CodeTells Tryz.prog (envP Tryz.prog) Tryz.f4 (cAt 3 (bodyOf Tryz.f4)) S3.T S3.H := tells_seq envP_ok eqP_ok amP_ok.1 amP_ok.2 mixed_P S4 (by kernel_rfl) part4 end5
theorem end3 : CodeTells Tryz.prog (envP Tryz.prog) Tryz.f4 (cAt 2 (bodyOf Tryz.f4)) S2.T S2.H := tells_seq envP_ok eqP_ok amP_ok.1 amP_ok.2 mixed_P S3 (by kernel_rfl) part3 end4
theorem end2 : CodeTells Tryz.prog (envP Tryz.prog) Tryz.f4 (cAt 1 (bodyOf Tryz.f4)) S1.T S1.H := tells_seq envP_ok eqP_ok amP_ok.1 amP_ok.2 mixed_P S2 (by kernel_rfl) part2 end3
theorem end1 : CodeTells Tryz.prog (envP Tryz.prog) Tryz.f4 (cAt 0 (bodyOf Tryz.f4)) S0.T S0.H := tells_seq envP_ok eqP_ok amP_ok.1 amP_ok.2 mixed_P S1 (by kernel_rfl) part1 end2
theorem awake4 (w : World) : Calls Tryz.prog 4 #[] w fun e w' => e = .returned (.bool true) ∧ Below w.heap.size w w' := by
  refine (tells_calls envP_ok Tryz.func4 (by kernel_rfl) (vs := []) (by kernel_rfl) (rel_tabs (ts := []) (by rfl) (fun x hx => by simp at hx)) (.nil _) end1).mono ?_
  rintro e w' ⟨rfl, K, ν, k2⟩
  exact ⟨rfl, k2.os, k2.tape, k2.output, k2.size, fun k hk => k2.keep k hk⟩
theorem callP_ok : CallOk Tryz.prog (acallX 4 (amP Tryz.prog).1) := acallX_ok amP_ok.1 awake4
theorem law3 : tellsC (envP Tryz.prog) Tryz.f3 (acode Tryz.prog (envP Tryz.prog) eqP (acallX 4 (amP Tryz.prog).1) (amP Tryz.prog).2 Tryz.f3.ntmps 1000 none (bodyOf Tryz.f3) (atmps [.chan none, .chan none, .chan (some 0)] 0 .nil) (tabsH []) []) = true := by kernel_rfl
theorem walk (row col : Int) (s : ByteArray) (w : World) : Calls Tryz.prog 3 #[.int .i64 row, .int .i64 col, .string s] w fun e w' => e = .returned (.bool true) ∧ Below w.heap.size w w' := by
  refine (tells_calls envP_ok Tryz.func3 (by kernel_rfl) (vs := [.chan none, .chan none, .chan (some 0)]) (by kernel_rfl) (rel_tabs (ts := []) (w := w) (by rfl) (fun x hx => by simp at hx)) (.cons (.unkI _ _) (.cons (.unkI _ _) (.cons (.unkS _) (.nil _)))) (tells_end envP_ok eqP_ok callP_ok amP_ok.2 mixed_P law3)).mono ?_
  rintro e w' ⟨rfl, K, ν, k2⟩
  exact ⟨rfl, k2.os, k2.tape, k2.output, k2.size, fun k hk => k2.keep k hk⟩
end Go.Proofs.YtbbbloicnihpeaaGreatDoor
