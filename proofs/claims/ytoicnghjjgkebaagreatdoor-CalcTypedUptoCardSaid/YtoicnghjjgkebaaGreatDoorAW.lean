/-
  The law's awake tells true: what the machine reckons. No condition.
-/
import Derived.Test.YtoicnghjjgkebaaGreatDoorVC
import Derived.Test.YtoicnghjjgkebaaGreatDoorProg
import Derived.KernelRfl
set_option linter.unusedSectionVars false
set_option linter.unusedSimpArgs false
set_option linter.unusedVariables false
set_option linter.unnecessarySimpa false
namespace Go.Proofs.YtoicnghjjgkebaaGreatDoor
namespace AM
open Go.RowKit
variable [Toks]
theorem small_P : smallB Tryz.prog = true := by kernel_rfl
theorem mixed_P : Tryz.prog.follows .mixedOrders = true := by kernel_rfl
theorem eqs_P : eqsB Tryz.prog [27, 29, 31, 33, 35, 37, 89, 95, 156, 318] = true := by kernel_rfl
theorem exts_P : ExtsOk Tryz.prog [] := fun x hx => by simp at hx
theorem ids_P : IdsOk Tryz.prog [] := fun f hf => by simp at hf
def envP (P : Program) : Env := envOf P [] []
def eqP : Eqs := eqsOf [27, 29, 31, 33, 35, 37, 89, 95, 156, 318]
theorem envP_ok : (envP Tryz.prog).Ok Tryz.prog := envOf_ok small_P exts_P ids_P
theorem eqP_ok : eqP.Ok Tryz.prog := eqsOf_ok eqs_P
def amP (P : Program) : ACall × ARound := am P (envP P) eqP 1000 [252] 60
theorem amP_ok : CallOk Tryz.prog (amP Tryz.prog).1 ∧ RoundOk Tryz.prog (amP Tryz.prog).2 := am_ok envP_ok eqP_ok mixed_P 60
def cAt : Nat → Code → Code
  | 0, c => c
  | k + 1, c => seqR (cAt k c)
def A1 : Cut := ⟨[], [], 16⟩
def A2 : Cut := ⟨[(1, .pointer (some ⟨90, 0, none⟩))], [(20, .cells [.slice (some ⟨49, 0, none⟩) 2 36893488147419103234, .slice (some ⟨51, 0, none⟩) 2 18446744073709551618, .map none, .slice none 0 0, .slice none 0 0] 219 true true),
 (49, .cells [.int .i64 0, .int .i64 1, .int .i64 0, .int .i64 2] 27 false true),
 (51, .cells [.bool true, .bool true] 4 false true),
 (56, .cells [.slice (some ⟨85, 0, none⟩) 2 36893488147419103234, .slice (some ⟨87, 0, none⟩) 2 18446744073709551618, .map none, .slice none 0 0, .slice none 0 0] 219 true true),
 (85, .cells [.int .i64 0, .int .i64 1, .int .i64 0, .int .i64 2] 27 false true),
 (87, .cells [.bool true, .bool true] 4 false true),
 (88, .cells [.map none] 116 true true),
 (89, .cells [.map none] 165 true true),
 (90, .cells [.pointer (some ⟨20, 0, none⟩), .pointer (some ⟨56, 0, none⟩), .pointer (some ⟨88, 0, none⟩), .pointer (some ⟨89, 0, none⟩)] 71 true true)], 91⟩
def A3 : Cut := ⟨[(1, .pointer (some ⟨90, 0, none⟩))], [(20, .cells [.slice (some ⟨49, 0, none⟩) 2 36893488147419103234, .slice (some ⟨51, 0, none⟩) 2 18446744073709551618, .map none, .slice none 0 0, .slice none 0 0] 219 true true),
 (49, .cells [.int .i64 0, .int .i64 1, .int .i64 0, .int .i64 2] 27 false true),
 (51, .cells [.bool true, .bool true] 4 false true),
 (56, .cells [.slice (some ⟨85, 0, none⟩) 2 36893488147419103234, .slice (some ⟨87, 0, none⟩) 2 18446744073709551618, .map none, .slice none 0 0, .slice none 0 0] 219 true true),
 (85, .cells [.int .i64 0, .int .i64 1, .int .i64 0, .int .i64 2] 27 false true),
 (87, .cells [.bool true, .bool true] 4 false true),
 (88, .cells [.map none] 116 true true),
 (89, .cells [.map none] 165 true true),
 (90, .cells [.pointer (some ⟨20, 0, none⟩), .pointer (some ⟨56, 0, none⟩), .pointer (some ⟨88, 0, none⟩), .pointer (some ⟨89, 0, none⟩)] 71 true true)], 91⟩
def A4 : Cut := ⟨[(1, .pointer (some ⟨90, 0, none⟩))], [(20, .cells [.slice (some ⟨49, 0, none⟩) 2 36893488147419103234, .slice (some ⟨51, 0, none⟩) 2 18446744073709551618, .map none, .slice none 0 0, .slice none 0 0] 219 true true),
 (49, .cells [.int .i64 0, .int .i64 1, .int .i64 0, .int .i64 2] 27 false true),
 (51, .cells [.bool true, .bool true] 4 false true),
 (56, .cells [.slice (some ⟨85, 0, none⟩) 2 36893488147419103234, .slice (some ⟨87, 0, none⟩) 2 18446744073709551618, .map none, .slice none 0 0, .slice none 0 0] 219 true true),
 (85, .cells [.int .i64 0, .int .i64 1, .int .i64 0, .int .i64 2] 27 false true),
 (87, .cells [.bool true, .bool true] 4 false true),
 (88, .cells [.map (some 196)] 116 true true),
 (89, .cells [.map none] 165 true true),
 (90, .cells [.pointer (some ⟨20, 0, none⟩), .pointer (some ⟨56, 0, none⟩), .pointer (some ⟨88, 0, none⟩), .pointer (some ⟨89, 0, none⟩)] 71 true true),
 (196, .map [(.agg #[.int .i64 0, .int .i64 1, .int .i64 0, .int .i64 1], .agg #[.int .i64 2, .int .i64 0, .int .i64 0, .int .i64 0, .string ⟨#[]⟩, .bool false, .int .i64 0, .int .i64 1, .int .i64 0, .int .i64 0, .int .i64 0, .string ⟨#[]⟩, .bool false, .int .i64 0, .string ⟨#[]⟩, .int .i64 0, .int .i64 1, .int .i64 0, .int .i64 2, .bool false, .bool false, .int .i64 0, .int .i64 0, .int .i64 0, .int .i64 0, .bool false, .bool false, .int .i64 0, .slice none 0 0], 0)] 1)], 212⟩
def A5 : Cut := ⟨[(1, .pointer (some ⟨90, 0, none⟩))], [(20, .cells [.slice (some ⟨49, 0, none⟩) 2 36893488147419103234, .slice (some ⟨51, 0, none⟩) 2 18446744073709551618, .map none, .slice none 0 0, .slice none 0 0] 219 true true),
 (49, .cells [.int .i64 0, .int .i64 1, .int .i64 0, .int .i64 2] 27 false true),
 (51, .cells [.bool true, .bool true] 4 false true),
 (56, .cells [.slice (some ⟨85, 0, none⟩) 2 36893488147419103234, .slice (some ⟨87, 0, none⟩) 2 18446744073709551618, .map none, .slice none 0 0, .slice none 0 0] 219 true true),
 (85, .cells [.int .i64 0, .int .i64 1, .int .i64 0, .int .i64 2] 27 false true),
 (87, .cells [.bool true, .bool true] 4 false true),
 (88, .cells [.map (some 196)] 116 true true),
 (89, .cells [.map none] 165 true true),
 (90, .cells [.pointer (some ⟨20, 0, none⟩), .pointer (some ⟨56, 0, none⟩), .pointer (some ⟨88, 0, none⟩), .pointer (some ⟨89, 0, none⟩)] 71 true true),
 (196, .map [(.agg #[.int .i64 0, .int .i64 1, .int .i64 0, .int .i64 1], .agg #[.int .i64 2, .int .i64 0, .int .i64 0, .int .i64 0, .string ⟨#[]⟩, .bool false, .int .i64 0, .int .i64 1, .int .i64 0, .int .i64 0, .int .i64 0, .string ⟨#[]⟩, .bool false, .int .i64 0, .string ⟨#[]⟩, .int .i64 0, .int .i64 1, .int .i64 0, .int .i64 2, .bool false, .bool false, .int .i64 0, .int .i64 0, .int .i64 0, .int .i64 0, .bool false, .bool false, .int .i64 0, .slice none 0 0], 0), (.agg #[.int .i64 0, .int .i64 1, .int .i64 0, .int .i64 2], .agg #[.int .i64 2, .int .i64 0, .int .i64 0, .int .i64 0, .string ⟨#[]⟩, .bool false, .int .i64 0, .int .i64 1, .int .i64 0, .int .i64 0, .int .i64 0, .string ⟨#[]⟩, .bool false, .int .i64 0, .string ⟨#[]⟩, .int .i64 0, .int .i64 1, .int .i64 0, .int .i64 1, .bool false, .bool false, .int .i64 0, .int .i64 0, .int .i64 0, .int .i64 0, .bool false, .bool false, .int .i64 0, .slice none 0 0], 1)] 2)], 332⟩
def A6 : Cut := ⟨[(2, .pointer (some ⟨346, 0, none⟩))], [(343, .map [] 0),
 (344, .map [(.agg #[.int .i64 0, .int .i64 0], .int .i64 0, 0), (.agg #[.int .i64 0, .int .i64 1], .int .i64 1, 1)] 2),
 (346, .cells [.int .i64 2, .int .i64 2, .map (some 343), .map (some 344), .slice (some ⟨1019, 0, none⟩) 2 36893488147419103234, .slice (some ⟨1020, 0, none⟩) 2 73786976294838206466, .slice (some ⟨2037, 0, none⟩) 2 2, .slice (some ⟨2034, 0, none⟩) 2 2, .pointer (some ⟨1956, 0, none⟩), .pointer (some ⟨497, 0, none⟩), .int .i64 1] 104 true true),
 (494, .map [(.agg #[.int .i64 0, .int .i64 0], .bool true, 0), (.agg #[.int .i64 0, .int .i64 1], .bool true, 1)] 2),
 (495, .map [] 0),
 (496, .map [] 0),
 (497, .cells [.int .i64 2, .int .i64 2, .map (some 494), .slice none 0 0, .map (some 495), .map (some 496)] 154 true true),
 (1019, .cells [.int .i64 0, .int .i64 0, .int .i64 0, .int .i64 1] 89 false true),
 (1020, .cells [.int .i64 0, .int .i64 1, .int .i64 0, .int .i64 1, .int .i64 0, .int .i64 1, .int .i64 0, .int .i64 2] 29 false true),
 (1951, .cells [.slice (some ⟨1975, 0, none⟩) 1 18446744073709551617, .slice (some ⟨2011, 0, none⟩) 1 18446744073709551617] 109 true true),
 (1953, .cells [.slice (some ⟨2029, 0, none⟩) 1 18446744073709551617, .slice (some ⟨1993, 0, none⟩) 1 18446744073709551617] 109 true true),
 (1954, .map [(.agg #[.int .i64 0, .int .i64 1], .bool true, 0), (.agg #[.int .i64 1, .int .i64 0], .bool true, 1)] 2),
 (1956, .cells [.slice (some ⟨1951, 0, none⟩) 2 2, .slice (some ⟨1953, 0, none⟩) 2 2, .map (some 1954)] 161 true true),
 (1975, .cells [.int .i64 1] 3 false true),
 (1993, .cells [.int .i64 0] 3 false true),
 (2011, .cells [.int .i64 0] 3 false true),
 (2029, .cells [.int .i64 1] 3 false true),
 (2034, .cells [.bool true, .bool true] 4 true true),
 (2037, .cells [.int .i64 1, .int .i64 1, .slice (some ⟨2228, 0, none⟩) 1 1, .int .i64 1, .int .i64 1, .slice (some ⟨2274, 0, none⟩) 1 1] 58 true true),
 (2228, .cells [.int .i64 4, .int .i64 0, .int .i64 0, .string ⟨#[]⟩, .bool false, .int .i64 8] 33 true true),
 (2274, .cells [.int .i64 4, .int .i64 0, .int .i64 0, .string ⟨#[]⟩, .bool false, .int .i64 8] 33 true true)], 2438⟩
def A7 : Cut := ⟨[(2, .pointer (some ⟨346, 0, none⟩))], [(343, .map [] 0),
 (344, .map [(.agg #[.int .i64 0, .int .i64 0], .int .i64 0, 0), (.agg #[.int .i64 0, .int .i64 1], .int .i64 1, 1)] 2),
 (346, .cells [.int .i64 2, .int .i64 2, .map (some 343), .map (some 344), .slice (some ⟨1019, 0, none⟩) 2 36893488147419103234, .slice (some ⟨1020, 0, none⟩) 2 73786976294838206466, .slice (some ⟨2037, 0, none⟩) 2 2, .slice (some ⟨2034, 0, none⟩) 2 2, .pointer (some ⟨1956, 0, none⟩), .pointer (some ⟨497, 0, none⟩), .int .i64 1] 104 true true),
 (494, .map [(.agg #[.int .i64 0, .int .i64 0], .bool true, 0), (.agg #[.int .i64 0, .int .i64 1], .bool true, 1)] 2),
 (495, .map [] 0),
 (496, .map [] 0),
 (497, .cells [.int .i64 2, .int .i64 2, .map (some 494), .slice none 0 0, .map (some 495), .map (some 496)] 154 true true),
 (1019, .cells [.int .i64 0, .int .i64 0, .int .i64 0, .int .i64 1] 89 false true),
 (1020, .cells [.int .i64 0, .int .i64 1, .int .i64 0, .int .i64 1, .int .i64 0, .int .i64 1, .int .i64 0, .int .i64 2] 29 false true),
 (1951, .cells [.slice (some ⟨1975, 0, none⟩) 1 18446744073709551617, .slice (some ⟨2011, 0, none⟩) 1 18446744073709551617] 109 true true),
 (1953, .cells [.slice (some ⟨2029, 0, none⟩) 1 18446744073709551617, .slice (some ⟨1993, 0, none⟩) 1 18446744073709551617] 109 true true),
 (1954, .map [(.agg #[.int .i64 0, .int .i64 1], .bool true, 0), (.agg #[.int .i64 1, .int .i64 0], .bool true, 1)] 2),
 (1956, .cells [.slice (some ⟨1951, 0, none⟩) 2 2, .slice (some ⟨1953, 0, none⟩) 2 2, .map (some 1954)] 161 true true),
 (1975, .cells [.int .i64 1] 3 false true),
 (1993, .cells [.int .i64 0] 3 false true),
 (2011, .cells [.int .i64 0] 3 false true),
 (2029, .cells [.int .i64 1] 3 false true),
 (2034, .cells [.bool true, .bool true] 4 true true),
 (2037, .cells [.int .i64 1, .int .i64 1, .slice (some ⟨2228, 0, none⟩) 1 1, .int .i64 1, .int .i64 1, .slice (some ⟨2274, 0, none⟩) 1 1] 58 true true),
 (2228, .cells [.int .i64 4, .int .i64 0, .int .i64 0, .string ⟨#[]⟩, .bool false, .int .i64 8] 33 true true),
 (2274, .cells [.int .i64 4, .int .i64 0, .int .i64 0, .string ⟨#[]⟩, .bool false, .int .i64 8] 33 true true)], 2438⟩
def A8 : Cut := ⟨[(2, .pointer (some ⟨346, 0, none⟩)), (3, .slice (some ⟨2538, 0, none⟩) 2 73786976294838206466)], [(343, .map [] 0),
 (344, .map [(.agg #[.int .i64 0, .int .i64 0], .int .i64 0, 0), (.agg #[.int .i64 0, .int .i64 1], .int .i64 1, 1)] 2),
 (346, .cells [.int .i64 2, .int .i64 2, .map (some 343), .map (some 344), .slice (some ⟨1019, 0, none⟩) 2 36893488147419103234, .slice (some ⟨1020, 0, none⟩) 2 73786976294838206466, .slice (some ⟨2037, 0, none⟩) 2 2, .slice (some ⟨2034, 0, none⟩) 2 2, .pointer (some ⟨1956, 0, none⟩), .pointer (some ⟨497, 0, none⟩), .int .i64 1] 104 true true),
 (494, .map [(.agg #[.int .i64 0, .int .i64 0], .bool true, 0), (.agg #[.int .i64 0, .int .i64 1], .bool true, 1)] 2),
 (495, .map [] 0),
 (496, .map [] 0),
 (497, .cells [.int .i64 2, .int .i64 2, .map (some 494), .slice none 0 0, .map (some 495), .map (some 496)] 154 true true),
 (1019, .cells [.int .i64 0, .int .i64 0, .int .i64 0, .int .i64 1] 89 false true),
 (1020, .cells [.int .i64 0, .int .i64 1, .int .i64 0, .int .i64 1, .int .i64 0, .int .i64 1, .int .i64 0, .int .i64 2] 29 false true),
 (1951, .cells [.slice (some ⟨1975, 0, none⟩) 1 18446744073709551617, .slice (some ⟨2011, 0, none⟩) 1 18446744073709551617] 109 true true),
 (1953, .cells [.slice (some ⟨2029, 0, none⟩) 1 18446744073709551617, .slice (some ⟨1993, 0, none⟩) 1 18446744073709551617] 109 true true),
 (1954, .map [(.agg #[.int .i64 0, .int .i64 1], .bool true, 0), (.agg #[.int .i64 1, .int .i64 0], .bool true, 1)] 2),
 (1956, .cells [.slice (some ⟨1951, 0, none⟩) 2 2, .slice (some ⟨1953, 0, none⟩) 2 2, .map (some 1954)] 161 true true),
 (1975, .cells [.int .i64 1] 3 false true),
 (1993, .cells [.int .i64 0] 3 false true),
 (2011, .cells [.int .i64 0] 3 false true),
 (2029, .cells [.int .i64 1] 3 false true),
 (2034, .cells [.bool true, .bool true] 4 true true),
 (2037, .cells [.int .i64 1, .int .i64 1, .slice (some ⟨2228, 0, none⟩) 1 1, .int .i64 1, .int .i64 1, .slice (some ⟨2274, 0, none⟩) 1 1] 58 true true),
 (2228, .cells [.int .i64 4, .int .i64 0, .int .i64 0, .string ⟨#[]⟩, .bool false, .int .i64 8] 33 true true),
 (2274, .cells [.int .i64 4, .int .i64 0, .int .i64 0, .string ⟨#[]⟩, .bool false, .int .i64 8] 33 true true),
 (2538, .cells [.int .i64 0, .int .i64 1, .int .i64 0, .int .i64 1, .int .i64 0, .int .i64 1, .int .i64 0, .int .i64 2] 29 false true)], 2539⟩
theorem apart1 : reaches (acode Tryz.prog (envP Tryz.prog) eqP (amP Tryz.prog).1 (amP Tryz.prog).2 Tryz.f4.ntmps 1000 none (seqL (cAt 0 (bodyOf Tryz.f4))) (atmps [] 0 .nil) (tabsH []) []) A1 = true := by kernel_rfl
theorem apart2 : reaches (acode Tryz.prog (envP Tryz.prog) eqP (amP Tryz.prog).1 (amP Tryz.prog).2 Tryz.f4.ntmps 1000 none (seqL (cAt 1 (bodyOf Tryz.f4))) A1.T A1.H []) A2 = true := by kernel_rfl
theorem apart3 : reaches (acode Tryz.prog (envP Tryz.prog) eqP (amP Tryz.prog).1 (amP Tryz.prog).2 Tryz.f4.ntmps 1000 none (seqL (cAt 2 (bodyOf Tryz.f4))) A2.T A2.H []) A3 = true := by kernel_rfl
theorem apart4 : reaches (acode Tryz.prog (envP Tryz.prog) eqP (amP Tryz.prog).1 (amP Tryz.prog).2 Tryz.f4.ntmps 1000 none (seqL (cAt 3 (bodyOf Tryz.f4))) A3.T A3.H []) A4 = true := by kernel_rfl
theorem apart5 : reaches (acode Tryz.prog (envP Tryz.prog) eqP (amP Tryz.prog).1 (amP Tryz.prog).2 Tryz.f4.ntmps 1000 none (seqL (cAt 4 (bodyOf Tryz.f4))) A4.T A4.H []) A5 = true := by kernel_rfl
theorem apart6 : reaches (acode Tryz.prog (envP Tryz.prog) eqP (amP Tryz.prog).1 (amP Tryz.prog).2 Tryz.f4.ntmps 1000 none (seqL (cAt 5 (bodyOf Tryz.f4))) A5.T A5.H []) A6 = true := by kernel_rfl
theorem apart7 : reaches (acode Tryz.prog (envP Tryz.prog) eqP (amP Tryz.prog).1 (amP Tryz.prog).2 Tryz.f4.ntmps 1000 none (seqL (cAt 6 (bodyOf Tryz.f4))) A6.T A6.H []) A7 = true := by kernel_rfl
theorem apart8 : reaches (acode Tryz.prog (envP Tryz.prog) eqP (amP Tryz.prog).1 (amP Tryz.prog).2 Tryz.f4.ntmps 1000 none (seqL (cAt 7 (bodyOf Tryz.f4))) A7.T A7.H []) A8 = true := by kernel_rfl
theorem apart9 : tellsC (envP Tryz.prog) Tryz.f4 (acode Tryz.prog (envP Tryz.prog) eqP (amP Tryz.prog).1 (amP Tryz.prog).2 Tryz.f4.ntmps 1000 none (cAt 8 (bodyOf Tryz.f4)) A8.T A8.H []) = true := by kernel_rfl
theorem aend9 : CodeTells Tryz.prog (envP Tryz.prog) Tryz.f4 (cAt 8 (bodyOf Tryz.f4)) A8.T A8.H := tells_end envP_ok eqP_ok amP_ok.1 amP_ok.2 mixed_P apart9
theorem aend8 : CodeTells Tryz.prog (envP Tryz.prog) Tryz.f4 (cAt 7 (bodyOf Tryz.f4)) A7.T A7.H := tells_seq envP_ok eqP_ok amP_ok.1 amP_ok.2 mixed_P A8 (by kernel_rfl) apart8 aend9
theorem aend7 : CodeTells Tryz.prog (envP Tryz.prog) Tryz.f4 (cAt 6 (bodyOf Tryz.f4)) A6.T A6.H := tells_seq envP_ok eqP_ok amP_ok.1 amP_ok.2 mixed_P A7 (by kernel_rfl) apart7 aend8
theorem aend6 : CodeTells Tryz.prog (envP Tryz.prog) Tryz.f4 (cAt 5 (bodyOf Tryz.f4)) A5.T A5.H := tells_seq envP_ok eqP_ok amP_ok.1 amP_ok.2 mixed_P A6 (by kernel_rfl) apart6 aend7
theorem aend5 : CodeTells Tryz.prog (envP Tryz.prog) Tryz.f4 (cAt 4 (bodyOf Tryz.f4)) A4.T A4.H := tells_seq envP_ok eqP_ok amP_ok.1 amP_ok.2 mixed_P A5 (by kernel_rfl) apart5 aend6
theorem aend4 : CodeTells Tryz.prog (envP Tryz.prog) Tryz.f4 (cAt 3 (bodyOf Tryz.f4)) A3.T A3.H := tells_seq envP_ok eqP_ok amP_ok.1 amP_ok.2 mixed_P A4 (by kernel_rfl) apart4 aend5
theorem aend3 : CodeTells Tryz.prog (envP Tryz.prog) Tryz.f4 (cAt 2 (bodyOf Tryz.f4)) A2.T A2.H := tells_seq envP_ok eqP_ok amP_ok.1 amP_ok.2 mixed_P A3 (by kernel_rfl) apart3 aend4
theorem aend2 : CodeTells Tryz.prog (envP Tryz.prog) Tryz.f4 (cAt 1 (bodyOf Tryz.f4)) A1.T A1.H := tells_seq envP_ok eqP_ok amP_ok.1 amP_ok.2 mixed_P A2 (by kernel_rfl) apart2 aend3
theorem aend1 : CodeTells Tryz.prog (envP Tryz.prog) Tryz.f4 (cAt 0 (bodyOf Tryz.f4)) (atmps [] 0 .nil) (tabsH []) := tells_seq envP_ok eqP_ok amP_ok.1 amP_ok.2 mixed_P A1 (by kernel_rfl) apart1 aend2
theorem awake4 (w : World) : Calls Tryz.prog 4 #[] w fun e w' => e = .returned (.bool true) ∧ Below w.heap.size w w' := by
  refine (tells_calls envP_ok Tryz.func4 (by kernel_rfl) (vs := []) (by kernel_rfl) (rel_tabs (ts := []) (by rfl) (fun x hx => by simp at hx)) (.nil _) aend1).mono ?_
  rintro e w' ⟨rfl, K, ν, k2⟩
  exact ⟨rfl, k2.os, k2.tape, k2.output, k2.size, fun k hk => k2.keep k hk⟩
end AM
end Go.Proofs.YtoicnghjjgkebaaGreatDoor
