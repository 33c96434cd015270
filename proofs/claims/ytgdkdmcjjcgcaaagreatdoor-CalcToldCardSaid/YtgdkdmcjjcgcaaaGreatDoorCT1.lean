/-
  CalcTold: the law at 3 cells, of a value that may be: what the machine reckons. No condition.
-/
import Derived.Test.YtgdkdmcjjcgcaaaGreatDoorCC
set_option linter.unusedSectionVars false
namespace Go.Proofs.YtgdkdmcjjcgcaaaGreatDoor
namespace AM
open Go.RowKit
variable [Toks]
def T1_1 : Cut := ⟨[(1, .complex .f64 0 4), (2, .pointer (some ⟨16, 0, none⟩))], [(16, .cells [.complex .f64 0 0, .complex .f64 0 1, .complex .f64 0 2, .complex .f64 1 0, .complex .f64 2 0, .complex .f64 0 3] 25 true true)], 17⟩
def T1_2 : Cut := ⟨[(1, .complex .f64 0 4), (2, .pointer (some ⟨16, 0, none⟩))], [(16, .cells [.complex .f64 0 0, .complex .f64 0 1, .complex .f64 0 2, .complex .f64 1 0, .complex .f64 2 0, .complex .f64 0 3] 25 true true)], 17⟩
def T1_3 : Cut := ⟨[(1, .complex .f64 0 4), (2, .pointer (some ⟨16, 0, none⟩)), (5, .pointer (some ⟨17, 0, none⟩))], [(16, .cells [.complex .f64 0 0, .complex .f64 0 1, .complex .f64 0 2, .complex .f64 1 0, .complex .f64 2 0, .complex .f64 0 3] 25 true true),
 (17, .cells [.int .i64 1, .complex .f64 0 0, .complex .f64 0 1, .complex .f64 0 2, .complex .f64 1 0, .complex .f64 2 0, .complex .f64 0 3, .int .i64 0, .int .i64 0, .int .i64 0, .int .i64 0, .string ⟨#[]⟩, .bool false, .int .i64 0, .string ⟨#[]⟩, .int .i64 0, .int .i64 0, .int .i64 0, .int .i64 0, .bool false, .bool false, .int .i64 0, .int .i64 0, .int .i64 0, .int .i64 0, .bool false, .bool false, .int .i64 0, .slice none 0 0] 37 true true)], 18⟩
def T1_4 : Cut := ⟨[(1, .complex .f64 0 4), (2, .pointer (some ⟨16, 0, none⟩)), (5, .pointer (some ⟨17, 0, none⟩))], [(16, .cells [.complex .f64 0 0, .complex .f64 0 1, .complex .f64 0 2, .complex .f64 1 0, .complex .f64 2 0, .complex .f64 0 3] 25 true true),
 (17, .cells [.int .i64 1, .complex .f64 0 0, .complex .f64 0 1, .complex .f64 0 2, .complex .f64 1 0, .complex .f64 2 0, .complex .f64 0 3, .int .i64 0, .int .i64 0, .int .i64 0, .int .i64 0, .string ⟨#[]⟩, .bool false, .int .i64 0, .string ⟨#[]⟩, .int .i64 0, .int .i64 0, .int .i64 0, .int .i64 0, .bool false, .bool false, .int .i64 0, .int .i64 0, .int .i64 0, .int .i64 0, .bool false, .bool false, .int .i64 0, .slice none 0 0] 37 true true)], 18⟩
def T1_5 : Cut := ⟨[(2, .pointer (some ⟨16, 0, none⟩)), (5, .pointer (some ⟨17, 0, none⟩)), (6, .int .i64 3)], [(16, .cells [.complex .f64 0 0, .complex .f64 0 1, .complex .f64 0 2, .complex .f64 1 0, .complex .f64 2 0, .complex .f64 0 3] 25 true true),
 (17, .cells [.int .i64 1, .complex .f64 0 0, .complex .f64 0 1, .complex .f64 0 2, .complex .f64 1 0, .complex .f64 2 0, .complex .f64 0 3, .int .i64 0, .int .i64 0, .int .i64 0, .int .i64 0, .string ⟨#[]⟩, .bool false, .int .i64 0, .string ⟨#[]⟩, .int .i64 0, .int .i64 0, .int .i64 0, .int .i64 0, .bool false, .bool false, .int .i64 0, .int .i64 0, .int .i64 0, .int .i64 0, .bool false, .bool false, .int .i64 0, .slice none 0 0] 37 true true)], 18⟩
def T1_6 : Cut := ⟨[(2, .pointer (some ⟨16, 0, none⟩)), (5, .pointer (some ⟨17, 0, none⟩)), (6, .int .i64 3), (7, .pointer (some ⟨92, 0, none⟩))], [(16, .cells [.complex .f64 0 0, .complex .f64 0 1, .complex .f64 0 2, .complex .f64 1 0, .complex .f64 2 0, .complex .f64 0 3] 25 true true),
 (17, .cells [.int .i64 1, .complex .f64 0 0, .complex .f64 0 1, .complex .f64 0 2, .complex .f64 1 0, .complex .f64 2 0, .complex .f64 0 3, .int .i64 0, .int .i64 0, .int .i64 0, .int .i64 0, .string ⟨#[]⟩, .bool false, .int .i64 0, .string ⟨#[]⟩, .int .i64 0, .int .i64 0, .int .i64 0, .int .i64 0, .bool false, .bool false, .int .i64 0, .int .i64 0, .int .i64 0, .int .i64 0, .bool false, .bool false, .int .i64 0, .slice none 0 0] 37 true true),
 (20, .cells [.slice (some ⟨34, 0, none⟩) 1 36893488147419103233, .slice (some ⟨36, 0, none⟩) 1 18446744073709551617, .map none, .slice none 0 0, .slice none 0 0] 160 true true),
 (34, .cells [.int .i64 0, .int .i64 1] 28 false true),
 (36, .cells [.bool true] 4 false true),
 (43, .cells [.slice (some ⟨87, 0, none⟩) 3 36893488147419103235, .slice (some ⟨89, 0, none⟩) 3 18446744073709551619, .map none, .slice none 0 0, .slice none 0 0] 160 true true),
 (87, .cells [.int .i64 0, .int .i64 1, .int .i64 0, .int .i64 2, .int .i64 0, .int .i64 3] 28 false true),
 (89, .cells [.bool true, .bool true, .bool true] 4 false true),
 (90, .cells [.map none] 71 true true),
 (91, .cells [.map none] 116 true true),
 (92, .cells [.pointer (some ⟨20, 0, none⟩), .pointer (some ⟨43, 0, none⟩), .pointer (some ⟨90, 0, none⟩), .pointer (some ⟨91, 0, none⟩)] 45 true true)], 93⟩
def T1_7 : Cut := ⟨[(2, .pointer (some ⟨16, 0, none⟩)), (5, .pointer (some ⟨17, 0, none⟩)), (6, .int .i64 3), (7, .pointer (some ⟨92, 0, none⟩))], [(16, .cells [.complex .f64 0 0, .complex .f64 0 1, .complex .f64 0 2, .complex .f64 1 0, .complex .f64 2 0, .complex .f64 0 3] 25 true true),
 (17, .cells [.int .i64 1, .complex .f64 0 0, .complex .f64 0 1, .complex .f64 0 2, .complex .f64 1 0, .complex .f64 2 0, .complex .f64 0 3, .int .i64 0, .int .i64 0, .int .i64 0, .int .i64 0, .string ⟨#[]⟩, .bool false, .int .i64 0, .string ⟨#[]⟩, .int .i64 0, .int .i64 0, .int .i64 0, .int .i64 0, .bool false, .bool false, .int .i64 0, .int .i64 0, .int .i64 0, .int .i64 0, .bool false, .bool false, .int .i64 0, .slice none 0 0] 37 true true),
 (20, .cells [.slice (some ⟨34, 0, none⟩) 1 36893488147419103233, .slice (some ⟨36, 0, none⟩) 1 18446744073709551617, .map none, .slice none 0 0, .slice none 0 0] 160 true true),
 (34, .cells [.int .i64 0, .int .i64 1] 28 false true),
 (36, .cells [.bool true] 4 false true),
 (43, .cells [.slice (some ⟨87, 0, none⟩) 3 36893488147419103235, .slice (some ⟨89, 0, none⟩) 3 18446744073709551619, .map none, .slice none 0 0, .slice none 0 0] 160 true true),
 (87, .cells [.int .i64 0, .int .i64 1, .int .i64 0, .int .i64 2, .int .i64 0, .int .i64 3] 28 false true),
 (89, .cells [.bool true, .bool true, .bool true] 4 false true),
 (90, .cells [.map none] 71 true true),
 (91, .cells [.map none] 116 true true),
 (92, .cells [.pointer (some ⟨20, 0, none⟩), .pointer (some ⟨43, 0, none⟩), .pointer (some ⟨90, 0, none⟩), .pointer (some ⟨91, 0, none⟩)] 45 true true)], 93⟩
def T1_8 : Cut := ⟨[(2, .pointer (some ⟨16, 0, none⟩)), (5, .pointer (some ⟨17, 0, none⟩)), (6, .int .i64 3), (7, .pointer (some ⟨92, 0, none⟩))], [(16, .cells [.complex .f64 0 0, .complex .f64 0 1, .complex .f64 0 2, .complex .f64 1 0, .complex .f64 2 0, .complex .f64 0 3] 25 true true),
 (17, .cells [.int .i64 1, .complex .f64 0 0, .complex .f64 0 1, .complex .f64 0 2, .complex .f64 1 0, .complex .f64 2 0, .complex .f64 0 3, .int .i64 0, .int .i64 0, .int .i64 0, .int .i64 0, .string ⟨#[]⟩, .bool false, .int .i64 0, .string ⟨#[]⟩, .int .i64 0, .int .i64 0, .int .i64 0, .int .i64 0, .bool false, .bool false, .int .i64 0, .int .i64 0, .int .i64 0, .int .i64 0, .bool false, .bool false, .int .i64 0, .slice none 0 0] 37 true true),
 (20, .cells [.slice (some ⟨34, 0, none⟩) 1 36893488147419103233, .slice (some ⟨36, 0, none⟩) 1 18446744073709551617, .map none, .slice none 0 0, .slice none 0 0] 160 true true),
 (34, .cells [.int .i64 0, .int .i64 1] 28 false true),
 (36, .cells [.bool true] 4 false true),
 (43, .cells [.slice (some ⟨87, 0, none⟩) 3 36893488147419103235, .slice (some ⟨89, 0, none⟩) 3 18446744073709551619, .map none, .slice none 0 0, .slice none 0 0] 160 true true),
 (87, .cells [.int .i64 0, .int .i64 1, .int .i64 0, .int .i64 2, .int .i64 0, .int .i64 3] 28 false true),
 (89, .cells [.bool true, .bool true, .bool true] 4 false true),
 (90, .cells [.map (some 188)] 71 true true),
 (91, .cells [.map none] 116 true true),
 (92, .cells [.pointer (some ⟨20, 0, none⟩), .pointer (some ⟨43, 0, none⟩), .pointer (some ⟨90, 0, none⟩), .pointer (some ⟨91, 0, none⟩)] 45 true true),
 (188, .map [(.agg #[.int .i64 0, .int .i64 1, .int .i64 0, .int .i64 1], .agg #[.int .i64 1, .complex .f64 0 0, .complex .f64 0 1, .complex .f64 0 2, .complex .f64 1 0, .complex .f64 2 0, .complex .f64 0 3, .int .i64 0, .int .i64 0, .int .i64 0, .int .i64 0, .string ⟨#[]⟩, .bool false, .int .i64 0, .string ⟨#[]⟩, .int .i64 0, .int .i64 0, .int .i64 0, .int .i64 0, .bool false, .bool false, .int .i64 0, .int .i64 0, .int .i64 0, .int .i64 0, .bool false, .bool false, .int .i64 0, .slice none 0 0], 0)] 1)], 199⟩
def T1_9 : Cut := ⟨[(2, .pointer (some ⟨16, 0, none⟩)), (5, .pointer (some ⟨17, 0, none⟩)), (6, .int .i64 3), (7, .pointer (some ⟨92, 0, none⟩))], [(16, .cells [.complex .f64 0 0, .complex .f64 0 1, .complex .f64 0 2, .complex .f64 1 0, .complex .f64 2 0, .complex .f64 0 3] 25 true true),
 (17, .cells [.int .i64 1, .complex .f64 0 0, .complex .f64 0 1, .complex .f64 0 2, .complex .f64 1 0, .complex .f64 2 0, .complex .f64 0 3, .int .i64 0, .int .i64 0, .int .i64 0, .int .i64 0, .string ⟨#[]⟩, .bool false, .int .i64 0, .string ⟨#[]⟩, .int .i64 0, .int .i64 0, .int .i64 0, .int .i64 0, .bool false, .bool false, .int .i64 0, .int .i64 0, .int .i64 0, .int .i64 0, .bool false, .bool false, .int .i64 0, .slice none 0 0] 37 true true),
 (20, .cells [.slice (some ⟨34, 0, none⟩) 1 36893488147419103233, .slice (some ⟨36, 0, none⟩) 1 18446744073709551617, .map none, .slice none 0 0, .slice none 0 0] 160 true true),
 (34, .cells [.int .i64 0, .int .i64 1] 28 false true),
 (36, .cells [.bool true] 4 false true),
 (43, .cells [.slice (some ⟨87, 0, none⟩) 3 36893488147419103235, .slice (some ⟨89, 0, none⟩) 3 18446744073709551619, .map none, .slice none 0 0, .slice none 0 0] 160 true true),
 (87, .cells [.int .i64 0, .int .i64 1, .int .i64 0, .int .i64 2, .int .i64 0, .int .i64 3] 28 false true),
 (89, .cells [.bool true, .bool true, .bool true] 4 false true),
 (90, .cells [.map (some 188)] 71 true true),
 (91, .cells [.map none] 116 true true),
 (92, .cells [.pointer (some ⟨20, 0, none⟩), .pointer (some ⟨43, 0, none⟩), .pointer (some ⟨90, 0, none⟩), .pointer (some ⟨91, 0, none⟩)] 45 true true),
 (188, .map [(.agg #[.int .i64 0, .int .i64 1, .int .i64 0, .int .i64 1], .agg #[.int .i64 1, .complex .f64 0 0, .complex .f64 0 1, .complex .f64 0 2, .complex .f64 1 0, .complex .f64 2 0, .complex .f64 0 3, .int .i64 0, .int .i64 0, .int .i64 0, .int .i64 0, .string ⟨#[]⟩, .bool false, .int .i64 0, .string ⟨#[]⟩, .int .i64 0, .int .i64 0, .int .i64 0, .int .i64 0, .bool false, .bool false, .int .i64 0, .int .i64 0, .int .i64 0, .int .i64 0, .bool false, .bool false, .int .i64 0, .slice none 0 0], 0), (.agg #[.int .i64 0, .int .i64 1, .int .i64 0, .int .i64 2], .agg #[.int .i64 2, .int .i64 0, .int .i64 0, .int .i64 0, .string ⟨#[]⟩, .bool false, .int .i64 0, .int .i64 1, .int .i64 0, .int .i64 0, .int .i64 0, .string ⟨#[]⟩, .bool false, .int .i64 0, .string ⟨#[]⟩, .int .i64 0, .int .i64 1, .int .i64 0, .int .i64 1, .bool false, .bool false, .int .i64 0, .int .i64 0, .int .i64 0, .int .i64 0, .bool false, .bool false, .int .i64 0, .slice none 0 0], 1), (.agg #[.int .i64 0, .int .i64 1, .int .i64 0, .int .i64 3], .agg #[.int .i64 2, .int .i64 0, .int .i64 0, .int .i64 0, .string ⟨#[]⟩, .bool false, .int .i64 0, .int .i64 1, .int .i64 0, .int .i64 0, .int .i64 0, .string ⟨#[]⟩, .bool false, .int .i64 0, .string ⟨#[]⟩, .int .i64 0, .int .i64 1, .int .i64 0, .int .i64 2, .bool false, .bool false, .int .i64 0, .int .i64 0, .int .i64 0, .int .i64 0, .bool false, .bool false, .int .i64 0, .slice none 0 0], 2)] 3)], 445⟩
def T1_10 : Cut := ⟨[(2, .pointer (some ⟨16, 0, none⟩)), (5, .pointer (some ⟨17, 0, none⟩)), (6, .int .i64 3), (9, .pointer (some ⟨459, 0, none⟩))], [(16, .cells [.complex .f64 0 0, .complex .f64 0 1, .complex .f64 0 2, .complex .f64 1 0, .complex .f64 2 0, .complex .f64 0 3] 25 true true),
 (17, .cells [.int .i64 1, .complex .f64 0 0, .complex .f64 0 1, .complex .f64 0 2, .complex .f64 1 0, .complex .f64 2 0, .complex .f64 0 3, .int .i64 0, .int .i64 0, .int .i64 0, .int .i64 0, .string ⟨#[]⟩, .bool false, .int .i64 0, .string ⟨#[]⟩, .int .i64 0, .int .i64 0, .int .i64 0, .int .i64 0, .bool false, .bool false, .int .i64 0, .int .i64 0, .int .i64 0, .int .i64 0, .bool false, .bool false, .int .i64 0, .slice none 0 0] 37 true true),
 (456, .map [(.agg #[.int .i64 0, .int .i64 0], .agg #[.complex .f64 0 0, .complex .f64 0 1, .complex .f64 0 2, .complex .f64 1 0, .complex .f64 2 0, .complex .f64 0 3], 0)] 1),
 (457, .map [(.agg #[.int .i64 0, .int .i64 1], .int .i64 0, 0), (.agg #[.int .i64 0, .int .i64 2], .int .i64 1, 1)] 2),
 (459, .cells [.int .i64 1, .int .i64 3, .map (some 456), .map (some 457), .slice (some ⟨1315, 0, none⟩) 2 36893488147419103234, .slice (some ⟨1316, 0, none⟩) 2 73786976294838206466, .slice (some ⟨2295, 0, none⟩) 2 2, .slice (some ⟨2292, 0, none⟩) 2 2, .pointer (some ⟨2250, 0, none⟩), .pointer (some ⟨610, 0, none⟩), .int .i64 1] 99 true true),
 (607, .map [(.agg #[.int .i64 0, .int .i64 0], .bool true, 0), (.agg #[.int .i64 0, .int .i64 1], .bool true, 1), (.agg #[.int .i64 0, .int .i64 2], .bool true, 2)] 3),
 (608, .map [] 0),
 (609, .map [] 0),
 (610, .cells [.int .i64 1, .int .i64 3, .map (some 607), .slice none 0 0, .map (some 608), .map (some 609)] 149 true true),
 (1315, .cells [.int .i64 0, .int .i64 1, .int .i64 0, .int .i64 2] 84 false true),
 (1316, .cells [.int .i64 0, .int .i64 1, .int .i64 0, .int .i64 2, .int .i64 0, .int .i64 1, .int .i64 0, .int .i64 3] 49 false true),
 (2245, .cells [.slice none 0 0, .slice (some ⟨2269, 0, none⟩) 1 18446744073709551617] 106 true true),
 (2247, .cells [.slice (some ⟨2287, 0, none⟩) 1 18446744073709551617, .slice none 0 0] 106 true true),
 (2248, .map [(.agg #[.int .i64 1, .int .i64 0], .bool true, 0)] 1),
 (2250, .cells [.slice (some ⟨2245, 0, none⟩) 2 2, .slice (some ⟨2247, 0, none⟩) 2 2, .map (some 2248)] 155 true true),
 (2269, .cells [.int .i64 0] 3 false true),
 (2287, .cells [.int .i64 1] 3 false true),
 (2292, .cells [.bool false, .bool false] 4 true true),
 (2295, .cells [.int .i64 1, .int .i64 1, .slice (some ⟨2970, 0, none⟩) 1 110680464442257309697, .int .i64 1, .int .i64 1, .slice (some ⟨3335, 0, none⟩) 1 110680464442257309697] 80 true true),
 (2970, .cells [.complex .f64 0 0, .complex .f64 0 1, .complex .f64 0 2, .complex .f64 1 0, .complex .f64 2 0, .complex .f64 0 3] 25 false true),
 (3335, .cells [.complex .f64 0 0, .complex .f64 0 1, .complex .f64 0 2, .complex .f64 1 0, .complex .f64 2 0, .complex .f64 0 3] 25 false true)], 3372⟩
theorem p1_T1 : reaches (acode Tryz.prog (envL Tryz.prog (some false) (some false) (some 1)) eqP (amT Tryz.prog 1).1 (amT Tryz.prog 1).2 Tryz.f3.ntmps 1000 none (seqL (cAt 0 (bodyOf Tryz.f3))) (atmps [vTok, .complex .f64 0 4] 0 .nil) (tabsH []) []) T1_1 = true := by kernel_rfl
theorem p2_T1 : reaches (acode Tryz.prog (envL Tryz.prog (some false) (some false) (some 1)) eqP (amT Tryz.prog 1).1 (amT Tryz.prog 1).2 Tryz.f3.ntmps 1000 none (seqL (cAt 1 (bodyOf Tryz.f3))) T1_1.T T1_1.H []) T1_2 = true := by kernel_rfl
theorem p3_T1 : reaches (acode Tryz.prog (envL Tryz.prog (some false) (some false) (some 1)) eqP (amT Tryz.prog 1).1 (amT Tryz.prog 1).2 Tryz.f3.ntmps 1000 none (seqL (cAt 2 (bodyOf Tryz.f3))) T1_2.T T1_2.H []) T1_3 = true := by kernel_rfl
theorem p4_T1 : reaches (acode Tryz.prog (envL Tryz.prog (some false) (some false) (some 1)) eqP (amT Tryz.prog 1).1 (amT Tryz.prog 1).2 Tryz.f3.ntmps 1000 none (seqL (cAt 3 (bodyOf Tryz.f3))) T1_3.T T1_3.H []) T1_4 = true := by kernel_rfl
theorem p5_T1 : reaches (acode Tryz.prog (envL Tryz.prog (some false) (some false) (some 1)) eqP (amT Tryz.prog 1).1 (amT Tryz.prog 1).2 Tryz.f3.ntmps 1000 none (seqL (cAt 4 (bodyOf Tryz.f3))) T1_4.T T1_4.H []) T1_5 = true := by kernel_rfl
theorem p6_T1 : reaches (acode Tryz.prog (envL Tryz.prog (some false) (some false) (some 1)) eqP (amT Tryz.prog 1).1 (amT Tryz.prog 1).2 Tryz.f3.ntmps 1000 none (seqL (cAt 5 (bodyOf Tryz.f3))) T1_5.T T1_5.H []) T1_6 = true := by kernel_rfl
theorem p7_T1 : reaches (acode Tryz.prog (envL Tryz.prog (some false) (some false) (some 1)) eqP (amT Tryz.prog 1).1 (amT Tryz.prog 1).2 Tryz.f3.ntmps 1000 none (seqL (cAt 6 (bodyOf Tryz.f3))) T1_6.T T1_6.H []) T1_7 = true := by kernel_rfl
theorem p8_T1 : reaches (acode Tryz.prog (envL Tryz.prog (some false) (some false) (some 1)) eqP (amT Tryz.prog 1).1 (amT Tryz.prog 1).2 Tryz.f3.ntmps 1000 none (seqL (cAt 7 (bodyOf Tryz.f3))) T1_7.T T1_7.H []) T1_8 = true := by kernel_rfl
theorem p9_T1 : reaches (acode Tryz.prog (envL Tryz.prog (some false) (some false) (some 1)) eqP (amT Tryz.prog 1).1 (amT Tryz.prog 1).2 Tryz.f3.ntmps 1000 none (seqL (cAt 8 (bodyOf Tryz.f3))) T1_8.T T1_8.H []) T1_9 = true := by kernel_rfl
theorem p10_T1 : reaches (acode Tryz.prog (envL Tryz.prog (some false) (some false) (some 1)) eqP (amT Tryz.prog 1).1 (amT Tryz.prog 1).2 Tryz.f3.ntmps 1000 none (seqL (cAt 9 (bodyOf Tryz.f3))) T1_9.T T1_9.H []) T1_10 = true := by kernel_rfl
theorem p11_T1 : tellsC (envL Tryz.prog (some false) (some false) (some 1)) Tryz.f3 (acode Tryz.prog (envL Tryz.prog (some false) (some false) (some 1)) eqP (amT Tryz.prog 1).1 (amT Tryz.prog 1).2 Tryz.f3.ntmps 1000 none (cAt 10 (bodyOf Tryz.f3)) T1_10.T T1_10.H []) = true := by kernel_rfl
end AM
end Go.Proofs.YtgdkdmcjjcgcaaaGreatDoor
