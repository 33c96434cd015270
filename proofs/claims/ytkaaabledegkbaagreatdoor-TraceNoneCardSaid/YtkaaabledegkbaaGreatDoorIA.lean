/-
  TraceNone: its awake tells true; so does the law. No condition.
-/
import Derived.Test.YtkaaabledegkbaaGreatDoorIS1
import Derived.Test.YtkaaabledegkbaaGreatDoorIS2
import Derived.Test.YtkaaabledegkbaaGreatDoorIS3
import Derived.Test.YtkaaabledegkbaaGreatDoorIS4
import Derived.Test.YtkaaabledegkbaaGreatDoorIS5
import Derived.Test.YtkaaabledegkbaaGreatDoorIS6
import Derived.Test.YtkaaabledegkbaaGreatDoorIS7
import Derived.Test.YtkaaabledegkbaaGreatDoorIY1
import Derived.Test.YtkaaabledegkbaaGreatDoorIY2
import Derived.Test.YtkaaabledegkbaaGreatDoorIY3
namespace Go.Proofs.YtkaaabledegkbaaGreatDoor
open Go.RowKit
theorem amQ_ok : CallOk Tryz.prog (amQ Tryz.prog).1 ∧ RoundOk Tryz.prog (amQ Tryz.prog).2 := amZ_ok (fun call hc => acallZ_ok amP_ok.1 ov1 _ (acallZ_ok amP_ok.1 ov2 _ (acallZ_ok amP_ok.1 ov3 _ (hc)))) envP_ok eqP_ok mixed_P 60
theorem end7 : CodeTells Tryz.prog (envP Tryz.prog) Tryz.f4 (cAt 6 (bodyOf Tryz.f4)) S6.T S6.H := tells_end envP_ok eqP_ok amQ_ok.1 amQ_ok.2 mixed_P part7
theorem end6 : CodeTells Tryz.prog (envP Tryz.prog) Tryz.f4 (cAt 5 (bodyOf Tryz.f4)) S5.T S5.H := tells_seq envP_ok eqP_ok amP_ok.1 amP_ok.2 mixed_P S6 (by kernel_rfl) part6 end7
theorem end5 : CodeTells Tryz.prog (envP Tryz.prog) Tryz.f4 (cAt 4 (bodyOf Tryz.f4)) S4.T S4.H := tells_seq envP_ok eqP_ok amP_ok.1 amP_ok.2 mixed_P S5 (by kernel_rfl) part5 end6
theorem end4 : CodeTells Tryz.prog (envP Tryz.prog) Tryz.f4 (cAt 3 (bodyOf Tryz.f4)) S3.T S3.H := tells_seq envP_ok eqP_ok amP_ok.1 amP_ok.2 mixed_P S4 (by kernel_rfl) part4 end5
theorem end3 : CodeTells Tryz.prog (envP Tryz.prog) Tryz.f4 (cAt 2 (bodyOf Tryz.f4)) S2.T S2.H := tells_seq envP_ok eqP_ok amP_ok.1 amP_ok.2 mixed_P S3 (by kernel_rfl) part3 end4
theorem end2 : CodeTells Tryz.prog (envP Tryz.prog) Tryz.f4 (cAt 1 (bodyOf Tryz.f4)) S1.T S1.H := tells_seq envP_ok eqP_ok amP_ok.1 amP_ok.2 mixed_P S2 (by kernel_rfl) part2 end3
theorem end1 : CodeTells Tryz.prog (envP Tryz.prog) Tryz.f4 (cAt 0 (bodyOf Tryz.f4)) S0.T S0.H := tells_seq envP_ok eqP_ok amP_ok.1 amP_ok.2 mixed_P S1 (by kernel_rfl) part1 end2
theorem awake4 (w : World) : Calls Tryz.prog 4 #[] w fun e w' => e = .returned (.bool true) ∧ Below w.heap.size w w' := by
  refine (tells_calls envP_ok Tryz.func4 (by kernel_rfl) (vs := []) (by kernel_rfl) (rel_tabs (ts := []) (by rfl) (fun x hx => by simp at hx)) (.nil _) end1).mono ?_
  rintro e w' ⟨rfl, K, ν, k2⟩
  exact ⟨rfl, k2.os, k2.tape, k2.output, k2.size, fun k hk => k2.keep k hk⟩
theorem callP_ok : CallOk Tryz.prog (acallX 4 (amP Tryz.prog).1) := acallX_ok amP_ok.1 awake4
theorem law3 : tellsC (envP Tryz.prog) Tryz.f3 (acode Tryz.prog (envP Tryz.prog) eqP (acallX 4 (amP Tryz.prog).1) (amP Tryz.prog).2 Tryz.f3.ntmps 1000 none (bodyOf Tryz.f3) (atmps [.agg #[.chan none, .chan none, .chan none, .chan none], .chan none, .chan none] 0 .nil) (tabsH []) []) = true := by kernel_rfl
theorem unk4 (μ : Mp) (a b c d : Int) : VR μ (.agg #[.chan none, .chan none, .chan none, .chan none]) (.agg #[.int .i64 a, .int .i64 b, .int .i64 c, .int .i64 d]) := by
  refine .agg rfl fun i v v' h h' => ?_
  match i with
  | 0 => cases h; cases h'; exact .unkI _ _
  | 1 => cases h; cases h'; exact .unkI _ _
  | 2 => cases h; cases h'; exact .unkI _ _
  | 3 => cases h; cases h'; exact .unkI _ _
  | n + 4 => simp at h
theorem walk (a b c d row col : Int) (w : World) : Calls Tryz.prog 3 #[.agg #[.int .i64 a, .int .i64 b, .int .i64 c, .int .i64 d], .int .i64 row, .int .i64 col] w fun e w' => e = .returned (.bool true) ∧ Below w.heap.size w w' := by
  refine (tells_calls envP_ok Tryz.func3 (by kernel_rfl) (vs := [.agg #[.chan none, .chan none, .chan none, .chan none], .chan none, .chan none]) (by kernel_rfl) (rel_tabs (ts := []) (w := w) (by rfl) (fun x hx => by simp at hx)) (.cons (unk4 _ a b c d) (.cons (.unkI _ _) (.cons (.unkI _ _) (.nil _)))) (tells_end envP_ok eqP_ok callP_ok amP_ok.2 mixed_P law3)).mono ?_
  rintro e w' ⟨rfl, K, ν, k2⟩
  exact ⟨rfl, k2.os, k2.tape, k2.output, k2.size, fun k hk => k2.keep k hk⟩
end Go.Proofs.YtkaaabledegkbaaGreatDoor
