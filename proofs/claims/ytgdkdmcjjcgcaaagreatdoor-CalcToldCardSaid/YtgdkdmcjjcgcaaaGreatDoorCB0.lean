/-
  CalcTold: the law at 2 cells, of a value that may not be, or is too long: what the machine reckons. No condition.
-/
import Derived.Test.YtgdkdmcjjcgcaaaGreatDoorCC
set_option linter.unusedSectionVars false
namespace Go.Proofs.YtgdkdmcjjcgcaaaGreatDoor
namespace AM
open Go.RowKit
variable [Toks]
def B0_1 : Cut := ⟨[(1, .complex .f64 0 4), (2, .pointer (some ⟨16, 0, none⟩))], [(16, .cells [.complex .f64 0 0, .complex .f64 0 1, .complex .f64 0 2, .complex .f64 1 0, .complex .f64 2 0, .complex .f64 0 3] 25 true true)], 17⟩
def B0_2 : Cut := ⟨[(1, .complex .f64 0 4), (2, .pointer (some ⟨16, 0, none⟩))], [(16, .cells [.complex .f64 0 0, .complex .f64 0 1, .complex .f64 0 2, .complex .f64 1 0, .complex .f64 2 0, .complex .f64 0 3] 25 true true)], 17⟩
def B0_3 : Cut := ⟨[(1, .complex .f64 0 4), (2, .pointer (some ⟨16, 0, none⟩)), (5, .pointer (some ⟨17, 0, none⟩))], [(16, .cells [.complex .f64 0 0, .complex .f64 0 1, .complex .f64 0 2, .complex .f64 1 0, .complex .f64 2 0, .complex .f64 0 3] 25 true true),
 (17, .cells [.int .i64 1, .complex .f64 0 0, .complex .f64 0 1, .complex .f64 0 2, .complex .f64 1 0, .complex .f64 2 0, .complex .f64 0 3, .int .i64 0, .int .i64 0, .int .i64 0, .int .i64 0, .string ⟨#[]⟩, .bool false, .int .i64 0, .string ⟨#[]⟩, .int .i64 0, .int .i64 0, .int .i64 0, .int .i64 0, .bool false, .bool false, .int .i64 0, .int .i64 0, .int .i64 0, .int .i64 0, .bool false, .bool false, .int .i64 0, .slice none 0 0] 37 true true)], 18⟩
def B0_4 : Cut := ⟨[(1, .complex .f64 0 4), (2, .pointer (some ⟨16, 0, none⟩)), (5, .pointer (some ⟨17, 0, none⟩))], [(16, .cells [.int .i64 1, .int .i64 0, .int .i64 0, .string ⟨#[]⟩, .bool false, .int .i64 0] 25 true true),
 (17, .cells [.int .i64 0, .int .i64 0, .int .i64 0, .int .i64 0, .string ⟨#[]⟩, .bool false, .int .i64 0, .int .i64 0, .int .i64 0, .int .i64 0, .int .i64 0, .string ⟨#[]⟩, .bool false, .int .i64 0, .string ⟨#[]⟩, .int .i64 0, .int .i64 0, .int .i64 0, .int .i64 0, .bool false, .bool false, .int .i64 0, .int .i64 0, .int .i64 0, .int .i64 0, .bool false, .bool false, .int .i64 0, .slice none 0 0] 37 true true)], 18⟩
def B0_5 : Cut := ⟨[(2, .pointer (some ⟨16, 0, none⟩)), (5, .pointer (some ⟨17, 0, none⟩)), (6, .int .i64 2)], [(16, .cells [.int .i64 1, .int .i64 0, .int .i64 0, .string ⟨#[]⟩, .bool false, .int .i64 0] 25 true true),
 (17, .cells [.int .i64 0, .int .i64 0, .int .i64 0, .int .i64 0, .string ⟨#[]⟩, .bool false, .int .i64 0, .int .i64 0, .int .i64 0, .int .i64 0, .int .i64 0, .string ⟨#[]⟩, .bool false, .int .i64 0, .string ⟨#[]⟩, .int .i64 0, .int .i64 0, .int .i64 0, .int .i64 0, .bool false, .bool false, .int .i64 0, .int .i64 0, .int .i64 0, .int .i64 0, .bool false, .bool false, .int .i64 0, .slice none 0 0] 37 true true)], 18⟩
def B0_6 : Cut := ⟨[(2, .pointer (some ⟨16, 0, none⟩)), (5, .pointer (some ⟨17, 0, none⟩)), (6, .int .i64 2), (7, .pointer (some ⟨75, 0, none⟩))], [(16, .cells [.int .i64 1, .int .i64 0, .int .i64 0, .string ⟨#[]⟩, .bool false, .int .i64 0] 25 true true),
 (17, .cells [.int .i64 0, .int .i64 0, .int .i64 0, .int .i64 0, .string ⟨#[]⟩, .bool false, .int .i64 0, .int .i64 0, .int .i64 0, .int .i64 0, .int .i64 0, .string ⟨#[]⟩, .bool false, .int .i64 0, .string ⟨#[]⟩, .int .i64 0, .int .i64 0, .int .i64 0, .int .i64 0, .bool false, .bool false, .int .i64 0, .int .i64 0, .int .i64 0, .int .i64 0, .bool false, .bool false, .int .i64 0, .slice none 0 0] 37 true true),
 (20, .cells [.slice (some ⟨34, 0, none⟩) 1 36893488147419103233, .slice (some ⟨36, 0, none⟩) 1 18446744073709551617, .map none, .slice none 0 0, .slice none 0 0] 160 true true),
 (34, .cells [.int .i64 0, .int .i64 1] 28 false true),
 (36, .cells [.bool true] 4 false true),
 (41, .cells [.slice (some ⟨70, 0, none⟩) 2 36893488147419103234, .slice (some ⟨72, 0, none⟩) 2 18446744073709551618, .map none, .slice none 0 0, .slice none 0 0] 160 true true),
 (70, .cells [.int .i64 0, .int .i64 1, .int .i64 0, .int .i64 2] 28 false true),
 (72, .cells [.bool true, .bool true] 4 false true),
 (73, .cells [.map none] 71 true true),
 (74, .cells [.map none] 116 true true),
 (75, .cells [.pointer (some ⟨20, 0, none⟩), .pointer (some ⟨41, 0, none⟩), .pointer (some ⟨73, 0, none⟩), .pointer (some ⟨74, 0, none⟩)] 45 true true)], 76⟩
def B0_7 : Cut := ⟨[(2, .pointer (some ⟨16, 0, none⟩)), (5, .pointer (some ⟨17, 0, none⟩)), (6, .int .i64 2), (7, .pointer (some ⟨75, 0, none⟩))], [(16, .cells [.int .i64 1, .int .i64 0, .int .i64 0, .string ⟨#[]⟩, .bool false, .int .i64 0] 25 true true),
 (17, .cells [.int .i64 0, .int .i64 0, .int .i64 0, .int .i64 0, .string ⟨#[]⟩, .bool false, .int .i64 0, .int .i64 0, .int .i64 0, .int .i64 0, .int .i64 0, .string ⟨#[]⟩, .bool false, .int .i64 0, .string ⟨#[]⟩, .int .i64 0, .int .i64 0, .int .i64 0, .int .i64 0, .bool false, .bool false, .int .i64 0, .int .i64 0, .int .i64 0, .int .i64 0, .bool false, .bool false, .int .i64 0, .slice none 0 0] 37 true true),
 (20, .cells [.slice (some ⟨34, 0, none⟩) 1 36893488147419103233, .slice (some ⟨36, 0, none⟩) 1 18446744073709551617, .map none, .slice none 0 0, .slice none 0 0] 160 true true),
 (34, .cells [.int .i64 0, .int .i64 1] 28 false true),
 (36, .cells [.bool true] 4 false true),
 (41, .cells [.slice (some ⟨70, 0, none⟩) 2 36893488147419103234, .slice (some ⟨72, 0, none⟩) 2 18446744073709551618, .map none, .slice none 0 0, .slice none 0 0] 160 true true),
 (70, .cells [.int .i64 0, .int .i64 1, .int .i64 0, .int .i64 2] 28 false true),
 (72, .cells [.bool true, .bool true] 4 false true),
 (73, .cells [.map none] 71 true true),
 (74, .cells [.map none] 116 true true),
 (75, .cells [.pointer (some ⟨20, 0, none⟩), .pointer (some ⟨41, 0, none⟩), .pointer (some ⟨73, 0, none⟩), .pointer (some ⟨74, 0, none⟩)] 45 true true)], 76⟩
def B0_8 : Cut := ⟨[(2, .pointer (some ⟨16, 0, none⟩)), (5, .pointer (some ⟨17, 0, none⟩)), (6, .int .i64 2), (7, .pointer (some ⟨75, 0, none⟩))], [(16, .cells [.int .i64 1, .int .i64 0, .int .i64 0, .string ⟨#[]⟩, .bool false, .int .i64 0] 25 true true),
 (17, .cells [.int .i64 0, .int .i64 0, .int .i64 0, .int .i64 0, .string ⟨#[]⟩, .bool false, .int .i64 0, .int .i64 0, .int .i64 0, .int .i64 0, .int .i64 0, .string ⟨#[]⟩, .bool false, .int .i64 0, .string ⟨#[]⟩, .int .i64 0, .int .i64 0, .int .i64 0, .int .i64 0, .bool false, .bool false, .int .i64 0, .int .i64 0, .int .i64 0, .int .i64 0, .bool false, .bool false, .int .i64 0, .slice none 0 0] 37 true true),
 (20, .cells [.slice (some ⟨34, 0, none⟩) 1 36893488147419103233, .slice (some ⟨36, 0, none⟩) 1 18446744073709551617, .map none, .slice none 0 0, .slice none 0 0] 160 true true),
 (34, .cells [.int .i64 0, .int .i64 1] 28 false true),
 (36, .cells [.bool true] 4 false true),
 (41, .cells [.slice (some ⟨70, 0, none⟩) 2 36893488147419103234, .slice (some ⟨72, 0, none⟩) 2 18446744073709551618, .map none, .slice none 0 0, .slice none 0 0] 160 true true),
 (70, .cells [.int .i64 0, .int .i64 1, .int .i64 0, .int .i64 2] 28 false true),
 (72, .cells [.bool true, .bool true] 4 false true),
 (73, .cells [.map none] 71 true true),
 (74, .cells [.map none] 116 true true),
 (75, .cells [.pointer (some ⟨20, 0, none⟩), .pointer (some ⟨41, 0, none⟩), .pointer (some ⟨73, 0, none⟩), .pointer (some ⟨74, 0, none⟩)] 45 true true)], 169⟩
def B0_9 : Cut := ⟨[(2, .pointer (some ⟨16, 0, none⟩)), (5, .pointer (some ⟨17, 0, none⟩)), (6, .int .i64 2), (7, .pointer (some ⟨75, 0, none⟩))], [(16, .cells [.int .i64 1, .int .i64 0, .int .i64 0, .string ⟨#[]⟩, .bool false, .int .i64 0] 25 true true),
 (17, .cells [.int .i64 0, .int .i64 0, .int .i64 0, .int .i64 0, .string ⟨#[]⟩, .bool false, .int .i64 0, .int .i64 0, .int .i64 0, .int .i64 0, .int .i64 0, .string ⟨#[]⟩, .bool false, .int .i64 0, .string ⟨#[]⟩, .int .i64 0, .int .i64 0, .int .i64 0, .int .i64 0, .bool false, .bool false, .int .i64 0, .int .i64 0, .int .i64 0, .int .i64 0, .bool false, .bool false, .int .i64 0, .slice none 0 0] 37 true true),
 (20, .cells [.slice (some ⟨34, 0, none⟩) 1 36893488147419103233, .slice (some ⟨36, 0, none⟩) 1 18446744073709551617, .map none, .slice none 0 0, .slice none 0 0] 160 true true),
 (34, .cells [.int .i64 0, .int .i64 1] 28 false true),
 (36, .cells [.bool true] 4 false true),
 (41, .cells [.slice (some ⟨70, 0, none⟩) 2 36893488147419103234, .slice (some ⟨72, 0, none⟩) 2 18446744073709551618, .map none, .slice none 0 0, .slice none 0 0] 160 true true),
 (70, .cells [.int .i64 0, .int .i64 1, .int .i64 0, .int .i64 2] 28 false true),
 (72, .cells [.bool true, .bool true] 4 false true),
 (73, .cells [.map (some 277)] 71 true true),
 (74, .cells [.map none] 116 true true),
 (75, .cells [.pointer (some ⟨20, 0, none⟩), .pointer (some ⟨41, 0, none⟩), .pointer (some ⟨73, 0, none⟩), .pointer (some ⟨74, 0, none⟩)] 45 true true),
 (277, .map [(.agg #[.int .i64 0, .int .i64 1, .int .i64 0, .int .i64 2], .agg #[.int .i64 2, .int .i64 0, .int .i64 0, .int .i64 0, .string ⟨#[]⟩, .bool false, .int .i64 0, .int .i64 1, .int .i64 0, .int .i64 0, .int .i64 0, .string ⟨#[]⟩, .bool false, .int .i64 0, .string ⟨#[]⟩, .int .i64 0, .int .i64 1, .int .i64 0, .int .i64 1, .bool false, .bool false, .int .i64 0, .int .i64 0, .int .i64 0, .int .i64 0, .bool false, .bool false, .int .i64 0, .slice none 0 0], 0)] 1)], 293⟩
def B0_10 : Cut := ⟨[(2, .pointer (some ⟨16, 0, none⟩)), (5, .pointer (some ⟨17, 0, none⟩)), (6, .int .i64 2), (9, .pointer (some ⟨307, 0, none⟩))], [(16, .cells [.int .i64 1, .int .i64 0, .int .i64 0, .string ⟨#[]⟩, .bool false, .int .i64 0] 25 true true),
 (17, .cells [.int .i64 0, .int .i64 0, .int .i64 0, .int .i64 0, .string ⟨#[]⟩, .bool false, .int .i64 0, .int .i64 0, .int .i64 0, .int .i64 0, .int .i64 0, .string ⟨#[]⟩, .bool false, .int .i64 0, .string ⟨#[]⟩, .int .i64 0, .int .i64 0, .int .i64 0, .int .i64 0, .bool false, .bool false, .int .i64 0, .int .i64 0, .int .i64 0, .int .i64 0, .bool false, .bool false, .int .i64 0, .slice none 0 0] 37 true true),
 (304, .map [] 0),
 (305, .map [(.agg #[.int .i64 0, .int .i64 1], .int .i64 0, 0)] 1),
 (307, .cells [.int .i64 1, .int .i64 2, .map (some 304), .map (some 305), .slice (some ⟨707, 0, none⟩) 1 36893488147419103233, .slice (some ⟨708, 0, none⟩) 1 73786976294838206465, .slice (some ⟨1199, 0, none⟩) 1 1, .slice (some ⟨1196, 0, none⟩) 1 1, .pointer (some ⟨1190, 0, none⟩), .pointer (some ⟨426, 0, none⟩), .int .i64 1] 99 true true),
 (423, .map [(.agg #[.int .i64 0, .int .i64 1], .bool true, 0)] 1),
 (424, .map [] 0),
 (425, .map [] 0),
 (426, .cells [.int .i64 1, .int .i64 2, .map (some 423), .slice none 0 0, .map (some 424), .map (some 425)] 149 true true),
 (707, .cells [.int .i64 0, .int .i64 1] 84 false true),
 (708, .cells [.int .i64 0, .int .i64 1, .int .i64 0, .int .i64 2] 49 false true),
 (1185, .cells [.slice none 0 0] 106 true true),
 (1187, .cells [.slice none 0 0] 106 true true),
 (1188, .map [] 0),
 (1190, .cells [.slice (some ⟨1185, 0, none⟩) 1 1, .slice (some ⟨1187, 0, none⟩) 1 1, .map (some 1188)] 155 true true),
 (1196, .cells [.bool false] 4 true true),
 (1199, .cells [.int .i64 1, .int .i64 1, .slice (some ⟨1736, 0, none⟩) 1 110680464442257309697] 80 true true),
 (1736, .cells [.int .i64 1, .int .i64 0, .int .i64 0, .string ⟨#[]⟩, .bool false, .int .i64 0] 25 false true)], 1772⟩
theorem p1_B0_1 : reaches (acode Tryz.prog (envL Tryz.prog none none none) eqP (amB Tryz.prog false none).1 (amB Tryz.prog false none).2 Tryz.f3.ntmps 1000 none (seqL (cAt 0 (bodyOf Tryz.f3))) (atmps [vTok, .complex .f64 0 4] 0 .nil) (tabsH []) []) B0_1 = true := by kernel_rfl
theorem p1_B0_2 : reaches (acode Tryz.prog (envL Tryz.prog none (some true) none) eqP (amB Tryz.prog true (some true)).1 (amB Tryz.prog true (some true)).2 Tryz.f3.ntmps 1000 none (seqL (cAt 0 (bodyOf Tryz.f3))) (atmps [vTok, .complex .f64 0 4] 0 .nil) (tabsH []) []) B0_1 = true := by kernel_rfl
theorem p2_B0_1 : reaches (acode Tryz.prog (envL Tryz.prog none none none) eqP (amB Tryz.prog false none).1 (amB Tryz.prog false none).2 Tryz.f3.ntmps 1000 none (seqL (cAt 1 (bodyOf Tryz.f3))) B0_1.T B0_1.H []) B0_2 = true := by kernel_rfl
theorem p2_B0_2 : reaches (acode Tryz.prog (envL Tryz.prog none (some true) none) eqP (amB Tryz.prog true (some true)).1 (amB Tryz.prog true (some true)).2 Tryz.f3.ntmps 1000 none (seqL (cAt 1 (bodyOf Tryz.f3))) B0_1.T B0_1.H []) B0_2 = true := by kernel_rfl
theorem p3_B0_1 : reaches (acode Tryz.prog (envL Tryz.prog none none none) eqP (amB Tryz.prog false none).1 (amB Tryz.prog false none).2 Tryz.f3.ntmps 1000 none (seqL (cAt 2 (bodyOf Tryz.f3))) B0_2.T B0_2.H []) B0_3 = true := by kernel_rfl
theorem p3_B0_2 : reaches (acode Tryz.prog (envL Tryz.prog none (some true) none) eqP (amB Tryz.prog true (some true)).1 (amB Tryz.prog true (some true)).2 Tryz.f3.ntmps 1000 none (seqL (cAt 2 (bodyOf Tryz.f3))) B0_2.T B0_2.H []) B0_3 = true := by kernel_rfl
theorem p4_B0_1 : reaches (acode Tryz.prog (envL Tryz.prog none none none) eqP (amB Tryz.prog false none).1 (amB Tryz.prog false none).2 Tryz.f3.ntmps 1000 none (seqL (cAt 3 (bodyOf Tryz.f3))) B0_3.T B0_3.H []) B0_4 = true := by kernel_rfl
theorem p4_B0_2 : reaches (acode Tryz.prog (envL Tryz.prog none (some true) none) eqP (amB Tryz.prog true (some true)).1 (amB Tryz.prog true (some true)).2 Tryz.f3.ntmps 1000 none (seqL (cAt 3 (bodyOf Tryz.f3))) B0_3.T B0_3.H []) B0_4 = true := by kernel_rfl
theorem p5_B0 : reaches (acode Tryz.prog (envL Tryz.prog none none (some 0)) eqP (amS Tryz.prog 0).1 (amS Tryz.prog 0).2 Tryz.f3.ntmps 1000 none (seqL (cAt 4 (bodyOf Tryz.f3))) B0_4.T B0_4.H []) B0_5 = true := by kernel_rfl
theorem p6_B0 : reaches (acode Tryz.prog (envL Tryz.prog none none (some 0)) eqP (amS Tryz.prog 0).1 (amS Tryz.prog 0).2 Tryz.f3.ntmps 1000 none (seqL (cAt 5 (bodyOf Tryz.f3))) B0_5.T B0_5.H []) B0_6 = true := by kernel_rfl
theorem p7_B0 : reaches (acode Tryz.prog (envL Tryz.prog none none (some 0)) eqP (amS Tryz.prog 0).1 (amS Tryz.prog 0).2 Tryz.f3.ntmps 1000 none (seqL (cAt 6 (bodyOf Tryz.f3))) B0_6.T B0_6.H []) B0_7 = true := by kernel_rfl
theorem p8_B0 : reaches (acode Tryz.prog (envL Tryz.prog none none (some 0)) eqP (amS Tryz.prog 0).1 (amS Tryz.prog 0).2 Tryz.f3.ntmps 1000 none (seqL (cAt 7 (bodyOf Tryz.f3))) B0_7.T B0_7.H []) B0_8 = true := by kernel_rfl
theorem p9_B0 : reaches (acode Tryz.prog (envL Tryz.prog none none (some 0)) eqP (amS Tryz.prog 0).1 (amS Tryz.prog 0).2 Tryz.f3.ntmps 1000 none (seqL (cAt 8 (bodyOf Tryz.f3))) B0_8.T B0_8.H []) B0_9 = true := by kernel_rfl
theorem p10_B0 : reaches (acode Tryz.prog (envL Tryz.prog none none (some 0)) eqP (amS Tryz.prog 0).1 (amS Tryz.prog 0).2 Tryz.f3.ntmps 1000 none (seqL (cAt 9 (bodyOf Tryz.f3))) B0_9.T B0_9.H []) B0_10 = true := by kernel_rfl
theorem p11_B0 : tellsC (envL Tryz.prog none none (some 0)) Tryz.f3 (acode Tryz.prog (envL Tryz.prog none none (some 0)) eqP (amS Tryz.prog 0).1 (amS Tryz.prog 0).2 Tryz.f3.ntmps 1000 none (cAt 10 (bodyOf Tryz.f3)) B0_10.T B0_10.H []) = true := by kernel_rfl
end AM
end Go.Proofs.YtgdkdmcjjcgcaaaGreatDoor
