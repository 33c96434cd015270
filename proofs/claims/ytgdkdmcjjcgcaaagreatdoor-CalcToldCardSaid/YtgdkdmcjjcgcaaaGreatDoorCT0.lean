/-
  CalcTold: the law at 2 cells, of a value that may be: what the machine reckons. No condition.
-/
import Derived.Test.YtgdkdmcjjcgcaaaGreatDoorCC
set_option linter.unusedSectionVars false
namespace Go.Proofs.YtgdkdmcjjcgcaaaGreatDoor
namespace AM
open Go.RowKit
variable [Toks]
def T0_1 : Cut := ⟨[(1, .complex .f64 0 4), (2, .pointer (some ⟨16, 0, none⟩))], [(16, .cells [.complex .f64 0 0, .complex .f64 0 1, .complex .f64 0 2, .complex .f64 1 0, .complex .f64 2 0, .complex .f64 0 3] 25 true true)], 17⟩
def T0_2 : Cut := ⟨[(1, .complex .f64 0 4), (2, .pointer (some ⟨16, 0, none⟩))], [(16, .cells [.complex .f64 0 0, .complex .f64 0 1, .complex .f64 0 2, .complex .f64 1 0, .complex .f64 2 0, .complex .f64 0 3] 25 true true)], 17⟩
def T0_3 : Cut := ⟨[(1, .complex .f64 0 4), (2, .pointer (some ⟨16, 0, none⟩)), (5, .pointer (some ⟨17, 0, none⟩))], [(16, .cells [.complex .f64 0 0, .complex .f64 0 1, .complex .f64 0 2, .complex .f64 1 0, .complex .f64 2 0, .complex .f64 0 3] 25 true true),
 (17, .cells [.int .i64 1, .complex .f64 0 0, .complex .f64 0 1, .complex .f64 0 2, .complex .f64 1 0, .complex .f64 2 0, .complex .f64 0 3, .int .i64 0, .int .i64 0, .int .i64 0, .int .i64 0, .string ⟨#[]⟩, .bool false, .int .i64 0, .string ⟨#[]⟩, .int .i64 0, .int .i64 0, .int .i64 0, .int .i64 0, .bool false, .bool false, .int .i64 0, .int .i64 0, .int .i64 0, .int .i64 0, .bool false, .bool false, .int .i64 0, .slice none 0 0] 37 true true)], 18⟩
def T0_4 : Cut := ⟨[(1, .complex .f64 0 4), (2, .pointer (some ⟨16, 0, none⟩)), (5, .pointer (some ⟨17, 0, none⟩))], [(16, .cells [.complex .f64 0 0, .complex .f64 0 1, .complex .f64 0 2, .complex .f64 1 0, .complex .f64 2 0, .complex .f64 0 3] 25 true true),
 (17, .cells [.int .i64 1, .complex .f64 0 0, .complex .f64 0 1, .complex .f64 0 2, .complex .f64 1 0, .complex .f64 2 0, .complex .f64 0 3, .int .i64 0, .int .i64 0, .int .i64 0, .int .i64 0, .string ⟨#[]⟩, .bool false, .int .i64 0, .string ⟨#[]⟩, .int .i64 0, .int .i64 0, .int .i64 0, .int .i64 0, .bool false, .bool false, .int .i64 0, .int .i64 0, .int .i64 0, .int .i64 0, .bool false, .bool false, .int .i64 0, .slice none 0 0] 37 true true)], 18⟩
def T0_5 : Cut := ⟨[(2, .pointer (some ⟨16, 0, none⟩)), (5, .pointer (some ⟨17, 0, none⟩)), (6, .int .i64 2)], [(16, .cells [.complex .f64 0 0, .complex .f64 0 1, .complex .f64 0 2, .complex .f64 1 0, .complex .f64 2 0, .complex .f64 0 3] 25 true true),
 (17, .cells [.int .i64 1, .complex .f64 0 0, .complex .f64 0 1, .complex .f64 0 2, .complex .f64 1 0, .complex .f64 2 0, .complex .f64 0 3, .int .i64 0, .int .i64 0, .int .i64 0, .int .i64 0, .string ⟨#[]⟩, .bool false, .int .i64 0, .string ⟨#[]⟩, .int .i64 0, .int .i64 0, .int .i64 0, .int .i64 0, .bool false, .bool false, .int .i64 0, .int .i64 0, .int .i64 0, .int .i64 0, .bool false, .bool false, .int .i64 0, .slice none 0 0] 37 true true)], 18⟩
def T0_6 : Cut := ⟨[(2, .pointer (some ⟨16, 0, none⟩)), (5, .pointer (some ⟨17, 0, none⟩)), (6, .int .i64 2), (7, .pointer (some ⟨75, 0, none⟩))], [(16, .cells [.complex .f64 0 0, .complex .f64 0 1, .complex .f64 0 2, .complex .f64 1 0, .complex .f64 2 0, .complex .f64 0 3] 25 true true),
 (17, .cells [.int .i64 1, .complex .f64 0 0, .complex .f64 0 1, .complex .f64 0 2, .complex .f64 1 0, .complex .f64 2 0, .complex .f64 0 3, .int .i64 0, .int .i64 0, .int .i64 0, .int .i64 0, .string ⟨#[]⟩, .bool false, .int .i64 0, .string ⟨#[]⟩, .int .i64 0, .int .i64 0, .int .i64 0, .int .i64 0, .bool false, .bool false, .int .i64 0, .int .i64 0, .int .i64 0, .int .i64 0, .bool false, .bool false, .int .i64 0, .slice none 0 0] 37 true true),
 (20, .cells [.slice (some ⟨34, 0, none⟩) 1 36893488147419103233, .slice (some ⟨36, 0, none⟩) 1 18446744073709551617, .map none, .slice none 0 0, .slice none 0 0] 160 true true),
 (34, .cells [.int .i64 0, .int .i64 1] 28 false true),
 (36, .cells [.bool true] 4 false true),
 (41, .cells [.slice (some ⟨70, 0, none⟩) 2 36893488147419103234, .slice (some ⟨72, 0, none⟩) 2 18446744073709551618, .map none, .slice none 0 0, .slice none 0 0] 160 true true),
 (70, .cells [.int .i64 0, .int .i64 1, .int .i64 0, .int .i64 2] 28 false true),
 (72, .cells [.bool true, .bool true] 4 false true),
 (73, .cells [.map none] 71 true true),
 (74, .cells [.map none] 116 true true),
 (75, .cells [.pointer (some ⟨20, 0, none⟩), .pointer (some ⟨41, 0, none⟩), .pointer (some ⟨73, 0, none⟩), .pointer (some ⟨74, 0, none⟩)] 45 true true)], 76⟩
def T0_7 : Cut := ⟨[(2, .pointer (some ⟨16, 0, none⟩)), (5, .pointer (some ⟨17, 0, none⟩)), (6, .int .i64 2), (7, .pointer (some ⟨75, 0, none⟩))], [(16, .cells [.complex .f64 0 0, .complex .f64 0 1, .complex .f64 0 2, .complex .f64 1 0, .complex .f64 2 0, .complex .f64 0 3] 25 true true),
 (17, .cells [.int .i64 1, .complex .f64 0 0, .complex .f64 0 1, .complex .f64 0 2, .complex .f64 1 0, .complex .f64 2 0, .complex .f64 0 3, .int .i64 0, .int .i64 0, .int .i64 0, .int .i64 0, .string ⟨#[]⟩, .bool false, .int .i64 0, .string ⟨#[]⟩, .int .i64 0, .int .i64 0, .int .i64 0, .int .i64 0, .bool false, .bool false, .int .i64 0, .int .i64 0, .int .i64 0, .int .i64 0, .bool false, .bool false, .int .i64 0, .slice none 0 0] 37 true true),
 (20, .cells [.slice (some ⟨34, 0, none⟩) 1 36893488147419103233, .slice (some ⟨36, 0, none⟩) 1 18446744073709551617, .map none, .slice none 0 0, .slice none 0 0] 160 true true),
 (34, .cells [.int .i64 0, .int .i64 1] 28 false true),
 (36, .cells [.bool true] 4 false true),
 (41, .cells [.slice (some ⟨70, 0, none⟩) 2 36893488147419103234, .slice (some ⟨72, 0, none⟩) 2 18446744073709551618, .map none, .slice none 0 0, .slice none 0 0] 160 true true),
 (70, .cells [.int .i64 0, .int .i64 1, .int .i64 0, .int .i64 2] 28 false true),
 (72, .cells [.bool true, .bool true] 4 false true),
 (73, .cells [.map none] 71 true true),
 (74, .cells [.map none] 116 true true),
 (75, .cells [.pointer (some ⟨20, 0, none⟩), .pointer (some ⟨41, 0, none⟩), .pointer (some ⟨73, 0, none⟩), .pointer (some ⟨74, 0, none⟩)] 45 true true)], 76⟩
def T0_8 : Cut := ⟨[(2, .pointer (some ⟨16, 0, none⟩)), (5, .pointer (some ⟨17, 0, none⟩)), (6, .int .i64 2), (7, .pointer (some ⟨75, 0, none⟩))], [(16, .cells [.complex .f64 0 0, .complex .f64 0 1, .complex .f64 0 2, .complex .f64 1 0, .complex .f64 2 0, .complex .f64 0 3] 25 true true),
 (17, .cells [.int .i64 1, .complex .f64 0 0, .complex .f64 0 1, .complex .f64 0 2, .complex .f64 1 0, .complex .f64 2 0, .complex .f64 0 3, .int .i64 0, .int .i64 0, .int .i64 0, .int .i64 0, .string ⟨#[]⟩, .bool false, .int .i64 0, .string ⟨#[]⟩, .int .i64 0, .int .i64 0, .int .i64 0, .int .i64 0, .bool false, .bool false, .int .i64 0, .int .i64 0, .int .i64 0, .int .i64 0, .bool false, .bool false, .int .i64 0, .slice none 0 0] 37 true true),
 (20, .cells [.slice (some ⟨34, 0, none⟩) 1 36893488147419103233, .slice (some ⟨36, 0, none⟩) 1 18446744073709551617, .map none, .slice none 0 0, .slice none 0 0] 160 true true),
 (34, .cells [.int .i64 0, .int .i64 1] 28 false true),
 (36, .cells [.bool true] 4 false true),
 (41, .cells [.slice (some ⟨70, 0, none⟩) 2 36893488147419103234, .slice (some ⟨72, 0, none⟩) 2 18446744073709551618, .map none, .slice none 0 0, .slice none 0 0] 160 true true),
 (70, .cells [.int .i64 0, .int .i64 1, .int .i64 0, .int .i64 2] 28 false true),
 (72, .cells [.bool true, .bool true] 4 false true),
 (73, .cells [.map (some 171)] 71 true true),
 (74, .cells [.map none] 116 true true),
 (75, .cells [.pointer (some ⟨20, 0, none⟩), .pointer (some ⟨41, 0, none⟩), .pointer (some ⟨73, 0, none⟩), .pointer (some ⟨74, 0, none⟩)] 45 true true),
 (171, .map [(.agg #[.int .i64 0, .int .i64 1, .int .i64 0, .int .i64 1], .agg #[.int .i64 1, .complex .f64 0 0, .complex .f64 0 1, .complex .f64 0 2, .complex .f64 1 0, .complex .f64 2 0, .complex .f64 0 3, .int .i64 0, .int .i64 0, .int .i64 0, .int .i64 0, .string ⟨#[]⟩, .bool false, .int .i64 0, .string ⟨#[]⟩, .int .i64 0, .int .i64 0, .int .i64 0, .int .i64 0, .bool false, .bool false, .int .i64 0, .int .i64 0, .int .i64 0, .int .i64 0, .bool false, .bool false, .int .i64 0, .slice none 0 0], 0)] 1)], 182⟩
def T0_9 : Cut := ⟨[(2, .pointer (some ⟨16, 0, none⟩)), (5, .pointer (some ⟨17, 0, none⟩)), (6, .int .i64 2), (7, .pointer (some ⟨75, 0, none⟩))], [(16, .cells [.complex .f64 0 0, .complex .f64 0 1, .complex .f64 0 2, .complex .f64 1 0, .complex .f64 2 0, .complex .f64 0 3] 25 true true),
 (17, .cells [.int .i64 1, .complex .f64 0 0, .complex .f64 0 1, .complex .f64 0 2, .complex .f64 1 0, .complex .f64 2 0, .complex .f64 0 3, .int .i64 0, .int .i64 0, .int .i64 0, .int .i64 0, .string ⟨#[]⟩, .bool false, .int .i64 0, .string ⟨#[]⟩, .int .i64 0, .int .i64 0, .int .i64 0, .int .i64 0, .bool false, .bool false, .int .i64 0, .int .i64 0, .int .i64 0, .int .i64 0, .bool false, .bool false, .int .i64 0, .slice none 0 0] 37 true true),
 (20, .cells [.slice (some ⟨34, 0, none⟩) 1 36893488147419103233, .slice (some ⟨36, 0, none⟩) 1 18446744073709551617, .map none, .slice none 0 0, .slice none 0 0] 160 true true),
 (34, .cells [.int .i64 0, .int .i64 1] 28 false true),
 (36, .cells [.bool true] 4 false true),
 (41, .cells [.slice (some ⟨70, 0, none⟩) 2 36893488147419103234, .slice (some ⟨72, 0, none⟩) 2 18446744073709551618, .map none, .slice none 0 0, .slice none 0 0] 160 true true),
 (70, .cells [.int .i64 0, .int .i64 1, .int .i64 0, .int .i64 2] 28 false true),
 (72, .cells [.bool true, .bool true] 4 false true),
 (73, .cells [.map (some 171)] 71 true true),
 (74, .cells [.map none] 116 true true),
 (75, .cells [.pointer (some ⟨20, 0, none⟩), .pointer (some ⟨41, 0, none⟩), .pointer (some ⟨73, 0, none⟩), .pointer (some ⟨74, 0, none⟩)] 45 true true),
 (171, .map [(.agg #[.int .i64 0, .int .i64 1, .int .i64 0, .int .i64 1], .agg #[.int .i64 1, .complex .f64 0 0, .complex .f64 0 1, .complex .f64 0 2, .complex .f64 1 0, .complex .f64 2 0, .complex .f64 0 3, .int .i64 0, .int .i64 0, .int .i64 0, .int .i64 0, .string ⟨#[]⟩, .bool false, .int .i64 0, .string ⟨#[]⟩, .int .i64 0, .int .i64 0, .int .i64 0, .int .i64 0, .bool false, .bool false, .int .i64 0, .int .i64 0, .int .i64 0, .int .i64 0, .bool false, .bool false, .int .i64 0, .slice none 0 0], 0), (.agg #[.int .i64 0, .int .i64 1, .int .i64 0, .int .i64 2], .agg #[.int .i64 2, .int .i64 0, .int .i64 0, .int .i64 0, .string ⟨#[]⟩, .bool false, .int .i64 0, .int .i64 1, .int .i64 0, .int .i64 0, .int .i64 0, .string ⟨#[]⟩, .bool false, .int .i64 0, .string ⟨#[]⟩, .int .i64 0, .int .i64 1, .int .i64 0, .int .i64 1, .bool false, .bool false, .int .i64 0, .int .i64 0, .int .i64 0, .int .i64 0, .bool false, .bool false, .int .i64 0, .slice none 0 0], 1)] 2)], 305⟩
def T0_10 : Cut := ⟨[(2, .pointer (some ⟨16, 0, none⟩)), (5, .pointer (some ⟨17, 0, none⟩)), (6, .int .i64 2), (9, .pointer (some ⟨319, 0, none⟩))], [(16, .cells [.complex .f64 0 0, .complex .f64 0 1, .complex .f64 0 2, .complex .f64 1 0, .complex .f64 2 0, .complex .f64 0 3] 25 true true),
 (17, .cells [.int .i64 1, .complex .f64 0 0, .complex .f64 0 1, .complex .f64 0 2, .complex .f64 1 0, .complex .f64 2 0, .complex .f64 0 3, .int .i64 0, .int .i64 0, .int .i64 0, .int .i64 0, .string ⟨#[]⟩, .bool false, .int .i64 0, .string ⟨#[]⟩, .int .i64 0, .int .i64 0, .int .i64 0, .int .i64 0, .bool false, .bool false, .int .i64 0, .int .i64 0, .int .i64 0, .int .i64 0, .bool false, .bool false, .int .i64 0, .slice none 0 0] 37 true true),
 (316, .map [(.agg #[.int .i64 0, .int .i64 0], .agg #[.complex .f64 0 0, .complex .f64 0 1, .complex .f64 0 2, .complex .f64 1 0, .complex .f64 2 0, .complex .f64 0 3], 0)] 1),
 (317, .map [(.agg #[.int .i64 0, .int .i64 1], .int .i64 0, 0)] 1),
 (319, .cells [.int .i64 1, .int .i64 2, .map (some 316), .map (some 317), .slice (some ⟨902, 0, none⟩) 1 36893488147419103233, .slice (some ⟨903, 0, none⟩) 1 73786976294838206465, .slice (some ⟨1394, 0, none⟩) 1 1, .slice (some ⟨1391, 0, none⟩) 1 1, .pointer (some ⟨1385, 0, none⟩), .pointer (some ⟨438, 0, none⟩), .int .i64 1] 99 true true),
 (435, .map [(.agg #[.int .i64 0, .int .i64 0], .bool true, 0), (.agg #[.int .i64 0, .int .i64 1], .bool true, 1)] 2),
 (436, .map [] 0),
 (437, .map [] 0),
 (438, .cells [.int .i64 1, .int .i64 2, .map (some 435), .slice none 0 0, .map (some 436), .map (some 437)] 149 true true),
 (902, .cells [.int .i64 0, .int .i64 1] 84 false true),
 (903, .cells [.int .i64 0, .int .i64 1, .int .i64 0, .int .i64 2] 49 false true),
 (1380, .cells [.slice none 0 0] 106 true true),
 (1382, .cells [.slice none 0 0] 106 true true),
 (1383, .map [] 0),
 (1385, .cells [.slice (some ⟨1380, 0, none⟩) 1 1, .slice (some ⟨1382, 0, none⟩) 1 1, .map (some 1383)] 155 true true),
 (1391, .cells [.bool false] 4 true true),
 (1394, .cells [.int .i64 1, .int .i64 1, .slice (some ⟨1884, 0, none⟩) 1 110680464442257309697] 80 true true),
 (1884, .cells [.complex .f64 0 0, .complex .f64 0 1, .complex .f64 0 2, .complex .f64 1 0, .complex .f64 2 0, .complex .f64 0 3] 25 false true)], 1920⟩
theorem p1_T0 : reaches (acode Tryz.prog (envL Tryz.prog (some false) (some false) (some 0)) eqP (amT Tryz.prog 0).1 (amT Tryz.prog 0).2 Tryz.f3.ntmps 1000 none (seqL (cAt 0 (bodyOf Tryz.f3))) (atmps [vTok, .complex .f64 0 4] 0 .nil) (tabsH []) []) T0_1 = true := by kernel_rfl
theorem p2_T0 : reaches (acode Tryz.prog (envL Tryz.prog (some false) (some false) (some 0)) eqP (amT Tryz.prog 0).1 (amT Tryz.prog 0).2 Tryz.f3.ntmps 1000 none (seqL (cAt 1 (bodyOf Tryz.f3))) T0_1.T T0_1.H []) T0_2 = true := by kernel_rfl
theorem p3_T0 : reaches (acode Tryz.prog (envL Tryz.prog (some false) (some false) (some 0)) eqP (amT Tryz.prog 0).1 (amT Tryz.prog 0).2 Tryz.f3.ntmps 1000 none (seqL (cAt 2 (bodyOf Tryz.f3))) T0_2.T T0_2.H []) T0_3 = true := by kernel_rfl
theorem p4_T0 : reaches (acode Tryz.prog (envL Tryz.prog (some false) (some false) (some 0)) eqP (amT Tryz.prog 0).1 (amT Tryz.prog 0).2 Tryz.f3.ntmps 1000 none (seqL (cAt 3 (bodyOf Tryz.f3))) T0_3.T T0_3.H []) T0_4 = true := by kernel_rfl
theorem p5_T0 : reaches (acode Tryz.prog (envL Tryz.prog (some false) (some false) (some 0)) eqP (amT Tryz.prog 0).1 (amT Tryz.prog 0).2 Tryz.f3.ntmps 1000 none (seqL (cAt 4 (bodyOf Tryz.f3))) T0_4.T T0_4.H []) T0_5 = true := by kernel_rfl
theorem p6_T0 : reaches (acode Tryz.prog (envL Tryz.prog (some false) (some false) (some 0)) eqP (amT Tryz.prog 0).1 (amT Tryz.prog 0).2 Tryz.f3.ntmps 1000 none (seqL (cAt 5 (bodyOf Tryz.f3))) T0_5.T T0_5.H []) T0_6 = true := by kernel_rfl
theorem p7_T0 : reaches (acode Tryz.prog (envL Tryz.prog (some false) (some false) (some 0)) eqP (amT Tryz.prog 0).1 (amT Tryz.prog 0).2 Tryz.f3.ntmps 1000 none (seqL (cAt 6 (bodyOf Tryz.f3))) T0_6.T T0_6.H []) T0_7 = true := by kernel_rfl
theorem p8_T0 : reaches (acode Tryz.prog (envL Tryz.prog (some false) (some false) (some 0)) eqP (amT Tryz.prog 0).1 (amT Tryz.prog 0).2 Tryz.f3.ntmps 1000 none (seqL (cAt 7 (bodyOf Tryz.f3))) T0_7.T T0_7.H []) T0_8 = true := by kernel_rfl
theorem p9_T0 : reaches (acode Tryz.prog (envL Tryz.prog (some false) (some false) (some 0)) eqP (amT Tryz.prog 0).1 (amT Tryz.prog 0).2 Tryz.f3.ntmps 1000 none (seqL (cAt 8 (bodyOf Tryz.f3))) T0_8.T T0_8.H []) T0_9 = true := by kernel_rfl
theorem p10_T0 : reaches (acode Tryz.prog (envL Tryz.prog (some false) (some false) (some 0)) eqP (amT Tryz.prog 0).1 (amT Tryz.prog 0).2 Tryz.f3.ntmps 1000 none (seqL (cAt 9 (bodyOf Tryz.f3))) T0_9.T T0_9.H []) T0_10 = true := by kernel_rfl
theorem p11_T0 : tellsC (envL Tryz.prog (some false) (some false) (some 0)) Tryz.f3 (acode Tryz.prog (envL Tryz.prog (some false) (some false) (some 0)) eqP (amT Tryz.prog 0).1 (amT Tryz.prog 0).2 Tryz.f3.ntmps 1000 none (cAt 10 (bodyOf Tryz.f3)) T0_10.T T0_10.H []) = true := by kernel_rfl
end AM
end Go.Proofs.YtgdkdmcjjcgcaaaGreatDoor
