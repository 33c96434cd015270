/-
  CalcTold: the law at 3 cells, of a value that may not be, or is too long: what the machine reckons. No condition.
-/
import Derived.Test.YtgdkdmcjjcgcaaaGreatDoorCC
set_option linter.unusedSectionVars false
namespace Go.Proofs.YtgdkdmcjjcgcaaaGreatDoor
namespace AM
open Go.RowKit
variable [Toks]
def B1_1 : Cut := ⟨[(1, .complex .f64 0 4), (2, .pointer (some ⟨16, 0, none⟩))], [(16, .cells [.complex .f64 0 0, .complex .f64 0 1, .complex .f64 0 2, .complex .f64 1 0, .complex .f64 2 0, .complex .f64 0 3] 25 true true)], 17⟩
def B1_2 : Cut := ⟨[(1, .complex .f64 0 4), (2, .pointer (some ⟨16, 0, none⟩))], [(16, .cells [.complex .f64 0 0, .complex .f64 0 1, .complex .f64 0 2, .complex .f64 1 0, .complex .f64 2 0, .complex .f64 0 3] 25 true true)], 17⟩
def B1_3 : Cut := ⟨[(1, .complex .f64 0 4), (2, .pointer (some ⟨16, 0, none⟩)), (5, .pointer (some ⟨17, 0, none⟩))], [(16, .cells [.complex .f64 0 0, .complex .f64 0 1, .complex .f64 0 2, .complex .f64 1 0, .complex .f64 2 0, .complex .f64 0 3] 25 true true),
 (17, .cells [.int .i64 1, .complex .f64 0 0, .complex .f64 0 1, .complex .f64 0 2, .complex .f64 1 0, .complex .f64 2 0, .complex .f64 0 3, .int .i64 0, .int .i64 0, .int .i64 0, .int .i64 0, .string ⟨#[]⟩, .bool false, .int .i64 0, .string ⟨#[]⟩, .int .i64 0, .int .i64 0, .int .i64 0, .int .i64 0, .bool false, .bool false, .int .i64 0, .int .i64 0, .int .i64 0, .int .i64 0, .bool false, .bool false, .int .i64 0, .slice none 0 0] 37 true true)], 18⟩
def B1_4 : Cut := ⟨[(1, .complex .f64 0 4), (2, .pointer (some ⟨16, 0, none⟩)), (5, .pointer (some ⟨17, 0, none⟩))], [(16, .cells [.int .i64 1, .int .i64 0, .int .i64 0, .string ⟨#[]⟩, .bool false, .int .i64 0] 25 true true),
 (17, .cells [.int .i64 0, .int .i64 0, .int .i64 0, .int .i64 0, .string ⟨#[]⟩, .bool false, .int .i64 0, .int .i64 0, .int .i64 0, .int .i64 0, .int .i64 0, .string ⟨#[]⟩, .bool false, .int .i64 0, .string ⟨#[]⟩, .int .i64 0, .int .i64 0, .int .i64 0, .int .i64 0, .bool false, .bool false, .int .i64 0, .int .i64 0, .int .i64 0, .int .i64 0, .bool false, .bool false, .int .i64 0, .slice none 0 0] 37 true true)], 18⟩
def B1_5 : Cut := ⟨[(2, .pointer (some ⟨16, 0, none⟩)), (5, .pointer (some ⟨17, 0, none⟩)), (6, .int .i64 3)], [(16, .cells [.int .i64 1, .int .i64 0, .int .i64 0, .string ⟨#[]⟩, .bool false, .int .i64 0] 25 true true),
 (17, .cells [.int .i64 0, .int .i64 0, .int .i64 0, .int .i64 0, .string ⟨#[]⟩, .bool false, .int .i64 0, .int .i64 0, .int .i64 0, .int .i64 0, .int .i64 0, .string ⟨#[]⟩, .bool false, .int .i64 0, .string ⟨#[]⟩, .int .i64 0, .int .i64 0, .int .i64 0, .int .i64 0, .bool false, .bool false, .int .i64 0, .int .i64 0, .int .i64 0, .int .i64 0, .bool false, .bool false, .int .i64 0, .slice none 0 0] 37 true true)], 18⟩
def B1_6 : Cut := ⟨[(2, .pointer (some ⟨16, 0, none⟩)), (5, .pointer (some ⟨17, 0, none⟩)), (6, .int .i64 3), (7, .pointer (some ⟨92, 0, none⟩))], [(16, .cells [.int .i64 1, .int .i64 0, .int .i64 0, .string ⟨#[]⟩, .bool false, .int .i64 0] 25 true true),
 (17, .cells [.int .i64 0, .int .i64 0, .int .i64 0, .int .i64 0, .string ⟨#[]⟩, .bool false, .int .i64 0, .int .i64 0, .int .i64 0, .int .i64 0, .int .i64 0, .string ⟨#[]⟩, .bool false, .int .i64 0, .string ⟨#[]⟩, .int .i64 0, .int .i64 0, .int .i64 0, .int .i64 0, .bool false, .bool false, .int .i64 0, .int .i64 0, .int .i64 0, .int .i64 0, .bool false, .bool false, .int .i64 0, .slice none 0 0] 37 true true),
 (20, .cells [.slice (some ⟨34, 0, none⟩) 1 36893488147419103233, .slice (some ⟨36, 0, none⟩) 1 18446744073709551617, .map none, .slice none 0 0, .slice none 0 0] 160 true true),
 (34, .cells [.int .i64 0, .int .i64 1] 28 false true),
 (36, .cells [.bool true] 4 false true),
 (43, .cells [.slice (some ⟨87, 0, none⟩) 3 36893488147419103235, .slice (some ⟨89, 0, none⟩) 3 18446744073709551619, .map none, .slice none 0 0, .slice none 0 0] 160 true true),
 (87, .cells [.int .i64 0, .int .i64 1, .int .i64 0, .int .i64 2, .int .i64 0, .int .i64 3] 28 false true),
 (89, .cells [.bool true, .bool true, .bool true] 4 false true),
 (90, .cells [.map none] 71 true true),
 (91, .cells [.map none] 116 true true),
 (92, .cells [.pointer (some ⟨20, 0, none⟩), .pointer (some ⟨43, 0, none⟩), .pointer (some ⟨90, 0, none⟩), .pointer (some ⟨91, 0, none⟩)] 45 true true)], 93⟩
def B1_7 : Cut := ⟨[(2, .pointer (some ⟨16, 0, none⟩)), (5, .pointer (some ⟨17, 0, none⟩)), (6, .int .i64 3), (7, .pointer (some ⟨92, 0, none⟩))], [(16, .cells [.int .i64 1, .int .i64 0, .int .i64 0, .string ⟨#[]⟩, .bool false, .int .i64 0] 25 true true),
 (17, .cells [.int .i64 0, .int .i64 0, .int .i64 0, .int .i64 0, .string ⟨#[]⟩, .bool false, .int .i64 0, .int .i64 0, .int .i64 0, .int .i64 0, .int .i64 0, .string ⟨#[]⟩, .bool false, .int .i64 0, .string ⟨#[]⟩, .int .i64 0, .int .i64 0, .int .i64 0, .int .i64 0, .bool false, .bool false, .int .i64 0, .int .i64 0, .int .i64 0, .int .i64 0, .bool false, .bool false, .int .i64 0, .slice none 0 0] 37 true true),
 (20, .cells [.slice (some ⟨34, 0, none⟩) 1 36893488147419103233, .slice (some ⟨36, 0, none⟩) 1 18446744073709551617, .map none, .slice none 0 0, .slice none 0 0] 160 true true),
 (34, .cells [.int .i64 0, .int .i64 1] 28 false true),
 (36, .cells [.bool true] 4 false true),
 (43, .cells [.slice (some ⟨87, 0, none⟩) 3 36893488147419103235, .slice (some ⟨89, 0, none⟩) 3 18446744073709551619, .map none, .slice none 0 0, .slice none 0 0] 160 true true),
 (87, .cells [.int .i64 0, .int .i64 1, .int .i64 0, .int .i64 2, .int .i64 0, .int .i64 3] 28 false true),
 (89, .cells [.bool true, .bool true, .bool true] 4 false true),
 (90, .cells [.map none] 71 true true),
 (91, .cells [.map none] 116 true true),
 (92, .cells [.pointer (some ⟨20, 0, none⟩), .pointer (some ⟨43, 0, none⟩), .pointer (some ⟨90, 0, none⟩), .pointer (some ⟨91, 0, none⟩)] 45 true true)], 93⟩
def B1_8 : Cut := ⟨[(2, .pointer (some ⟨16, 0, none⟩)), (5, .pointer (some ⟨17, 0, none⟩)), (6, .int .i64 3), (7, .pointer (some ⟨92, 0, none⟩))], [(16, .cells [.int .i64 1, .int .i64 0, .int .i64 0, .string ⟨#[]⟩, .bool false, .int .i64 0] 25 true true),
 (17, .cells [.int .i64 0, .int .i64 0, .int .i64 0, .int .i64 0, .string ⟨#[]⟩, .bool false, .int .i64 0, .int .i64 0, .int .i64 0, .int .i64 0, .int .i64 0, .string ⟨#[]⟩, .bool false, .int .i64 0, .string ⟨#[]⟩, .int .i64 0, .int .i64 0, .int .i64 0, .int .i64 0, .bool false, .bool false, .int .i64 0, .int .i64 0, .int .i64 0, .int .i64 0, .bool false, .bool false, .int .i64 0, .slice none 0 0] 37 true true),
 (20, .cells [.slice (some ⟨34, 0, none⟩) 1 36893488147419103233, .slice (some ⟨36, 0, none⟩) 1 18446744073709551617, .map none, .slice none 0 0, .slice none 0 0] 160 true true),
 (34, .cells [.int .i64 0, .int .i64 1] 28 false true),
 (36, .cells [.bool true] 4 false true),
 (43, .cells [.slice (some ⟨87, 0, none⟩) 3 36893488147419103235, .slice (some ⟨89, 0, none⟩) 3 18446744073709551619, .map none, .slice none 0 0, .slice none 0 0] 160 true true),
 (87, .cells [.int .i64 0, .int .i64 1, .int .i64 0, .int .i64 2, .int .i64 0, .int .i64 3] 28 false true),
 (89, .cells [.bool true, .bool true, .bool true] 4 false true),
 (90, .cells [.map none] 71 true true),
 (91, .cells [.map none] 116 true true),
 (92, .cells [.pointer (some ⟨20, 0, none⟩), .pointer (some ⟨43, 0, none⟩), .pointer (some ⟨90, 0, none⟩), .pointer (some ⟨91, 0, none⟩)] 45 true true)], 186⟩
def B1_9 : Cut := ⟨[(2, .pointer (some ⟨16, 0, none⟩)), (5, .pointer (some ⟨17, 0, none⟩)), (6, .int .i64 3), (7, .pointer (some ⟨92, 0, none⟩))], [(16, .cells [.int .i64 1, .int .i64 0, .int .i64 0, .string ⟨#[]⟩, .bool false, .int .i64 0] 25 true true),
 (17, .cells [.int .i64 0, .int .i64 0, .int .i64 0, .int .i64 0, .string ⟨#[]⟩, .bool false, .int .i64 0, .int .i64 0, .int .i64 0, .int .i64 0, .int .i64 0, .string ⟨#[]⟩, .bool false, .int .i64 0, .string ⟨#[]⟩, .int .i64 0, .int .i64 0, .int .i64 0, .int .i64 0, .bool false, .bool false, .int .i64 0, .int .i64 0, .int .i64 0, .int .i64 0, .bool false, .bool false, .int .i64 0, .slice none 0 0] 37 true true),
 (20, .cells [.slice (some ⟨34, 0, none⟩) 1 36893488147419103233, .slice (some ⟨36, 0, none⟩) 1 18446744073709551617, .map none, .slice none 0 0, .slice none 0 0] 160 true true),
 (34, .cells [.int .i64 0, .int .i64 1] 28 false true),
 (36, .cells [.bool true] 4 false true),
 (43, .cells [.slice (some ⟨87, 0, none⟩) 3 36893488147419103235, .slice (some ⟨89, 0, none⟩) 3 18446744073709551619, .map none, .slice none 0 0, .slice none 0 0] 160 true true),
 (87, .cells [.int .i64 0, .int .i64 1, .int .i64 0, .int .i64 2, .int .i64 0, .int .i64 3] 28 false true),
 (89, .cells [.bool true, .bool true, .bool true] 4 false true),
 (90, .cells [.map (some 294)] 71 true true),
 (91, .cells [.map none] 116 true true),
 (92, .cells [.pointer (some ⟨20, 0, none⟩), .pointer (some ⟨43, 0, none⟩), .pointer (some ⟨90, 0, none⟩), .pointer (some ⟨91, 0, none⟩)] 45 true true),
 (294, .map [(.agg #[.int .i64 0, .int .i64 1, .int .i64 0, .int .i64 2], .agg #[.int .i64 2, .int .i64 0, .int .i64 0, .int .i64 0, .string ⟨#[]⟩, .bool false, .int .i64 0, .int .i64 1, .int .i64 0, .int .i64 0, .int .i64 0, .string ⟨#[]⟩, .bool false, .int .i64 0, .string ⟨#[]⟩, .int .i64 0, .int .i64 1, .int .i64 0, .int .i64 1, .bool false, .bool false, .int .i64 0, .int .i64 0, .int .i64 0, .int .i64 0, .bool false, .bool false, .int .i64 0, .slice none 0 0], 0), (.agg #[.int .i64 0, .int .i64 1, .int .i64 0, .int .i64 3], .agg #[.int .i64 2, .int .i64 0, .int .i64 0, .int .i64 0, .string ⟨#[]⟩, .bool false, .int .i64 0, .int .i64 1, .int .i64 0, .int .i64 0, .int .i64 0, .string ⟨#[]⟩, .bool false, .int .i64 0, .string ⟨#[]⟩, .int .i64 0, .int .i64 1, .int .i64 0, .int .i64 2, .bool false, .bool false, .int .i64 0, .int .i64 0, .int .i64 0, .int .i64 0, .bool false, .bool false, .int .i64 0, .slice none 0 0], 1)] 2)], 433⟩
def B1_10 : Cut := ⟨[(2, .pointer (some ⟨16, 0, none⟩)), (5, .pointer (some ⟨17, 0, none⟩)), (6, .int .i64 3), (9, .pointer (some ⟨447, 0, none⟩))], [(16, .cells [.int .i64 1, .int .i64 0, .int .i64 0, .string ⟨#[]⟩, .bool false, .int .i64 0] 25 true true),
 (17, .cells [.int .i64 0, .int .i64 0, .int .i64 0, .int .i64 0, .string ⟨#[]⟩, .bool false, .int .i64 0, .int .i64 0, .int .i64 0, .int .i64 0, .int .i64 0, .string ⟨#[]⟩, .bool false, .int .i64 0, .string ⟨#[]⟩, .int .i64 0, .int .i64 0, .int .i64 0, .int .i64 0, .bool false, .bool false, .int .i64 0, .int .i64 0, .int .i64 0, .int .i64 0, .bool false, .bool false, .int .i64 0, .slice none 0 0] 37 true true),
 (444, .map [] 0),
 (445, .map [(.agg #[.int .i64 0, .int .i64 1], .int .i64 0, 0), (.agg #[.int .i64 0, .int .i64 2], .int .i64 1, 1)] 2),
 (447, .cells [.int .i64 1, .int .i64 3, .map (some 444), .map (some 445), .slice (some ⟨1120, 0, none⟩) 2 36893488147419103234, .slice (some ⟨1121, 0, none⟩) 2 73786976294838206466, .slice (some ⟨2100, 0, none⟩) 2 2, .slice (some ⟨2097, 0, none⟩) 2 2, .pointer (some ⟨2055, 0, none⟩), .pointer (some ⟨598, 0, none⟩), .int .i64 1] 99 true true),
 (595, .map [(.agg #[.int .i64 0, .int .i64 1], .bool true, 0), (.agg #[.int .i64 0, .int .i64 2], .bool true, 1)] 2),
 (596, .map [] 0),
 (597, .map [] 0),
 (598, .cells [.int .i64 1, .int .i64 3, .map (some 595), .slice none 0 0, .map (some 596), .map (some 597)] 149 true true),
 (1120, .cells [.int .i64 0, .int .i64 1, .int .i64 0, .int .i64 2] 84 false true),
 (1121, .cells [.int .i64 0, .int .i64 1, .int .i64 0, .int .i64 2, .int .i64 0, .int .i64 1, .int .i64 0, .int .i64 3] 49 false true),
 (2050, .cells [.slice none 0 0, .slice (some ⟨2074, 0, none⟩) 1 18446744073709551617] 106 true true),
 (2052, .cells [.slice (some ⟨2092, 0, none⟩) 1 18446744073709551617, .slice none 0 0] 106 true true),
 (2053, .map [(.agg #[.int .i64 1, .int .i64 0], .bool true, 0)] 1),
 (2055, .cells [.slice (some ⟨2050, 0, none⟩) 2 2, .slice (some ⟨2052, 0, none⟩) 2 2, .map (some 2053)] 155 true true),
 (2074, .cells [.int .i64 0] 3 false true),
 (2092, .cells [.int .i64 1] 3 false true),
 (2097, .cells [.bool false, .bool false] 4 true true),
 (2100, .cells [.int .i64 1, .int .i64 1, .slice (some ⟨2822, 0, none⟩) 1 110680464442257309697, .int .i64 1, .int .i64 1, .slice (some ⟨3262, 0, none⟩) 1 110680464442257309697] 80 true true),
 (2822, .cells [.int .i64 1, .int .i64 0, .int .i64 0, .string ⟨#[]⟩, .bool false, .int .i64 0] 25 false true),
 (3262, .cells [.int .i64 1, .int .i64 0, .int .i64 0, .string ⟨#[]⟩, .bool false, .int .i64 0] 25 false true)], 3299⟩
theorem p1_B1_1 : reaches (acode Tryz.prog (envL Tryz.prog none none none) eqP (amB Tryz.prog false none).1 (amB Tryz.prog false none).2 Tryz.f3.ntmps 1000 none (seqL (cAt 0 (bodyOf Tryz.f3))) (atmps [vTok, .complex .f64 0 4] 0 .nil) (tabsH []) []) B1_1 = true := by kernel_rfl
theorem p1_B1_2 : reaches (acode Tryz.prog (envL Tryz.prog none (some true) none) eqP (amB Tryz.prog true (some true)).1 (amB Tryz.prog true (some true)).2 Tryz.f3.ntmps 1000 none (seqL (cAt 0 (bodyOf Tryz.f3))) (atmps [vTok, .complex .f64 0 4] 0 .nil) (tabsH []) []) B1_1 = true := by kernel_rfl
theorem p2_B1_1 : reaches (acode Tryz.prog (envL Tryz.prog none none none) eqP (amB Tryz.prog false none).1 (amB Tryz.prog false none).2 Tryz.f3.ntmps 1000 none (seqL (cAt 1 (bodyOf Tryz.f3))) B1_1.T B1_1.H []) B1_2 = true := by kernel_rfl
theorem p2_B1_2 : reaches (acode Tryz.prog (envL Tryz.prog none (some true) none) eqP (amB Tryz.prog true (some true)).1 (amB Tryz.prog true (some true)).2 Tryz.f3.ntmps 1000 none (seqL (cAt 1 (bodyOf Tryz.f3))) B1_1.T B1_1.H []) B1_2 = true := by kernel_rfl
theorem p3_B1_1 : reaches (acode Tryz.prog (envL Tryz.prog none none none) eqP (amB Tryz.prog false none).1 (amB Tryz.prog false none).2 Tryz.f3.ntmps 1000 none (seqL (cAt 2 (bodyOf Tryz.f3))) B1_2.T B1_2.H []) B1_3 = true := by kernel_rfl
theorem p3_B1_2 : reaches (acode Tryz.prog (envL Tryz.prog none (some true) none) eqP (amB Tryz.prog true (some true)).1 (amB Tryz.prog true (some true)).2 Tryz.f3.ntmps 1000 none (seqL (cAt 2 (bodyOf Tryz.f3))) B1_2.T B1_2.H []) B1_3 = true := by kernel_rfl
theorem p4_B1_1 : reaches (acode Tryz.prog (envL Tryz.prog none none none) eqP (amB Tryz.prog false none).1 (amB Tryz.prog false none).2 Tryz.f3.ntmps 1000 none (seqL (cAt 3 (bodyOf Tryz.f3))) B1_3.T B1_3.H []) B1_4 = true := by kernel_rfl
theorem p4_B1_2 : reaches (acode Tryz.prog (envL Tryz.prog none (some true) none) eqP (amB Tryz.prog true (some true)).1 (amB Tryz.prog true (some true)).2 Tryz.f3.ntmps 1000 none (seqL (cAt 3 (bodyOf Tryz.f3))) B1_3.T B1_3.H []) B1_4 = true := by kernel_rfl
theorem p5_B1 : reaches (acode Tryz.prog (envL Tryz.prog none none (some 1)) eqP (amS Tryz.prog 1).1 (amS Tryz.prog 1).2 Tryz.f3.ntmps 1000 none (seqL (cAt 4 (bodyOf Tryz.f3))) B1_4.T B1_4.H []) B1_5 = true := by kernel_rfl
theorem p6_B1 : reaches (acode Tryz.prog (envL Tryz.prog none none (some 1)) eqP (amS Tryz.prog 1).1 (amS Tryz.prog 1).2 Tryz.f3.ntmps 1000 none (seqL (cAt 5 (bodyOf Tryz.f3))) B1_5.T B1_5.H []) B1_6 = true := by kernel_rfl
theorem p7_B1 : reaches (acode Tryz.prog (envL Tryz.prog none none (some 1)) eqP (amS Tryz.prog 1).1 (amS Tryz.prog 1).2 Tryz.f3.ntmps 1000 none (seqL (cAt 6 (bodyOf Tryz.f3))) B1_6.T B1_6.H []) B1_7 = true := by kernel_rfl
theorem p8_B1 : reaches (acode Tryz.prog (envL Tryz.prog none none (some 1)) eqP (amS Tryz.prog 1).1 (amS Tryz.prog 1).2 Tryz.f3.ntmps 1000 none (seqL (cAt 7 (bodyOf Tryz.f3))) B1_7.T B1_7.H []) B1_8 = true := by kernel_rfl
theorem p9_B1 : reaches (acode Tryz.prog (envL Tryz.prog none none (some 1)) eqP (amS Tryz.prog 1).1 (amS Tryz.prog 1).2 Tryz.f3.ntmps 1000 none (seqL (cAt 8 (bodyOf Tryz.f3))) B1_8.T B1_8.H []) B1_9 = true := by kernel_rfl
theorem p10_B1 : reaches (acode Tryz.prog (envL Tryz.prog none none (some 1)) eqP (amS Tryz.prog 1).1 (amS Tryz.prog 1).2 Tryz.f3.ntmps 1000 none (seqL (cAt 9 (bodyOf Tryz.f3))) B1_9.T B1_9.H []) B1_10 = true := by kernel_rfl
theorem p11_B1 : tellsC (envL Tryz.prog none none (some 1)) Tryz.f3 (acode Tryz.prog (envL Tryz.prog none none (some 1)) eqP (amS Tryz.prog 1).1 (amS Tryz.prog 1).2 Tryz.f3.ntmps 1000 none (cAt 10 (bodyOf Tryz.f3)) B1_10.T B1_10.H []) = true := by kernel_rfl
end AM
end Go.Proofs.YtgdkdmcjjcgcaaaGreatDoor
