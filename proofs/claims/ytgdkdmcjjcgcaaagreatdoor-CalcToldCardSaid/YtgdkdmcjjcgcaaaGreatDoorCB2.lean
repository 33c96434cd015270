/-
  CalcTold: the law at 4 cells, of a value that may not be, or is too long: what the machine reckons. No condition.
-/
import Derived.Test.YtgdkdmcjjcgcaaaGreatDoorCC
set_option linter.unusedSectionVars false
namespace Go.Proofs.YtgdkdmcjjcgcaaaGreatDoor
namespace AM
open Go.RowKit
variable [Toks]
def B2_1 : Cut := ⟨[(1, .complex .f64 0 4), (2, .pointer (some ⟨16, 0, none⟩))], [(16, .cells [.complex .f64 0 0, .complex .f64 0 1, .complex .f64 0 2, .complex .f64 1 0, .complex .f64 2 0, .complex .f64 0 3] 25 true true)], 17⟩
def B2_2 : Cut := ⟨[(1, .complex .f64 0 4), (2, .pointer (some ⟨16, 0, none⟩))], [(16, .cells [.complex .f64 0 0, .complex .f64 0 1, .complex .f64 0 2, .complex .f64 1 0, .complex .f64 2 0, .complex .f64 0 3] 25 true true)], 17⟩
def B2_3 : Cut := ⟨[(1, .complex .f64 0 4), (2, .pointer (some ⟨16, 0, none⟩)), (5, .pointer (some ⟨17, 0, none⟩))], [(16, .cells [.complex .f64 0 0, .complex .f64 0 1, .complex .f64 0 2, .complex .f64 1 0, .complex .f64 2 0, .complex .f64 0 3] 25 true true),
 (17, .cells [.int .i64 1, .complex .f64 0 0, .complex .f64 0 1, .complex .f64 0 2, .complex .f64 1 0, .complex .f64 2 0, .complex .f64 0 3, .int .i64 0, .int .i64 0, .int .i64 0, .int .i64 0, .string ⟨#[]⟩, .bool false, .int .i64 0, .string ⟨#[]⟩, .int .i64 0, .int .i64 0, .int .i64 0, .int .i64 0, .bool false, .bool false, .int .i64 0, .int .i64 0, .int .i64 0, .int .i64 0, .bool false, .bool false, .int .i64 0, .slice none 0 0] 37 true true)], 18⟩
def B2_4 : Cut := ⟨[(1, .complex .f64 0 4), (2, .pointer (some ⟨16, 0, none⟩)), (5, .pointer (some ⟨17, 0, none⟩))], [(16, .cells [.int .i64 1, .int .i64 0, .int .i64 0, .string ⟨#[]⟩, .bool false, .int .i64 0] 25 true true),
 (17, .cells [.int .i64 0, .int .i64 0, .int .i64 0, .int .i64 0, .string ⟨#[]⟩, .bool false, .int .i64 0, .int .i64 0, .int .i64 0, .int .i64 0, .int .i64 0, .string ⟨#[]⟩, .bool false, .int .i64 0, .string ⟨#[]⟩, .int .i64 0, .int .i64 0, .int .i64 0, .int .i64 0, .bool false, .bool false, .int .i64 0, .int .i64 0, .int .i64 0, .int .i64 0, .bool false, .bool false, .int .i64 0, .slice none 0 0] 37 true true)], 18⟩
def B2_5 : Cut := ⟨[(2, .pointer (some ⟨16, 0, none⟩)), (5, .pointer (some ⟨17, 0, none⟩)), (6, .int .i64 4)], [(16, .cells [.int .i64 1, .int .i64 0, .int .i64 0, .string ⟨#[]⟩, .bool false, .int .i64 0] 25 true true),
 (17, .cells [.int .i64 0, .int .i64 0, .int .i64 0, .int .i64 0, .string ⟨#[]⟩, .bool false, .int .i64 0, .int .i64 0, .int .i64 0, .int .i64 0, .int .i64 0, .string ⟨#[]⟩, .bool false, .int .i64 0, .string ⟨#[]⟩, .int .i64 0, .int .i64 0, .int .i64 0, .int .i64 0, .bool false, .bool false, .int .i64 0, .int .i64 0, .int .i64 0, .int .i64 0, .bool false, .bool false, .int .i64 0, .slice none 0 0] 37 true true)], 18⟩
def B2_6 : Cut := ⟨[(2, .pointer (some ⟨16, 0, none⟩)), (5, .pointer (some ⟨17, 0, none⟩)), (6, .int .i64 4), (7, .pointer (some ⟨109, 0, none⟩))], [(16, .cells [.int .i64 1, .int .i64 0, .int .i64 0, .string ⟨#[]⟩, .bool false, .int .i64 0] 25 true true),
 (17, .cells [.int .i64 0, .int .i64 0, .int .i64 0, .int .i64 0, .string ⟨#[]⟩, .bool false, .int .i64 0, .int .i64 0, .int .i64 0, .int .i64 0, .int .i64 0, .string ⟨#[]⟩, .bool false, .int .i64 0, .string ⟨#[]⟩, .int .i64 0, .int .i64 0, .int .i64 0, .int .i64 0, .bool false, .bool false, .int .i64 0, .int .i64 0, .int .i64 0, .int .i64 0, .bool false, .bool false, .int .i64 0, .slice none 0 0] 37 true true),
 (20, .cells [.slice (some ⟨34, 0, none⟩) 1 36893488147419103233, .slice (some ⟨36, 0, none⟩) 1 18446744073709551617, .map none, .slice none 0 0, .slice none 0 0] 160 true true),
 (34, .cells [.int .i64 0, .int .i64 1] 28 false true),
 (36, .cells [.bool true] 4 false true),
 (45, .cells [.slice (some ⟨104, 0, none⟩) 4 36893488147419103236, .slice (some ⟨106, 0, none⟩) 4 18446744073709551620, .map none, .slice none 0 0, .slice none 0 0] 160 true true),
 (104, .cells [.int .i64 0, .int .i64 1, .int .i64 0, .int .i64 2, .int .i64 0, .int .i64 3, .int .i64 0, .int .i64 4] 28 false true),
 (106, .cells [.bool true, .bool true, .bool true, .bool true] 4 false true),
 (107, .cells [.map none] 71 true true),
 (108, .cells [.map none] 116 true true),
 (109, .cells [.pointer (some ⟨20, 0, none⟩), .pointer (some ⟨45, 0, none⟩), .pointer (some ⟨107, 0, none⟩), .pointer (some ⟨108, 0, none⟩)] 45 true true)], 110⟩
def B2_7 : Cut := ⟨[(2, .pointer (some ⟨16, 0, none⟩)), (5, .pointer (some ⟨17, 0, none⟩)), (6, .int .i64 4), (7, .pointer (some ⟨109, 0, none⟩))], [(16, .cells [.int .i64 1, .int .i64 0, .int .i64 0, .string ⟨#[]⟩, .bool false, .int .i64 0] 25 true true),
 (17, .cells [.int .i64 0, .int .i64 0, .int .i64 0, .int .i64 0, .string ⟨#[]⟩, .bool false, .int .i64 0, .int .i64 0, .int .i64 0, .int .i64 0, .int .i64 0, .string ⟨#[]⟩, .bool false, .int .i64 0, .string ⟨#[]⟩, .int .i64 0, .int .i64 0, .int .i64 0, .int .i64 0, .bool false, .bool false, .int .i64 0, .int .i64 0, .int .i64 0, .int .i64 0, .bool false, .bool false, .int .i64 0, .slice none 0 0] 37 true true),
 (20, .cells [.slice (some ⟨34, 0, none⟩) 1 36893488147419103233, .slice (some ⟨36, 0, none⟩) 1 18446744073709551617, .map none, .slice none 0 0, .slice none 0 0] 160 true true),
 (34, .cells [.int .i64 0, .int .i64 1] 28 false true),
 (36, .cells [.bool true] 4 false true),
 (45, .cells [.slice (some ⟨104, 0, none⟩) 4 36893488147419103236, .slice (some ⟨106, 0, none⟩) 4 18446744073709551620, .map none, .slice none 0 0, .slice none 0 0] 160 true true),
 (104, .cells [.int .i64 0, .int .i64 1, .int .i64 0, .int .i64 2, .int .i64 0, .int .i64 3, .int .i64 0, .int .i64 4] 28 false true),
 (106, .cells [.bool true, .bool true, .bool true, .bool true] 4 false true),
 (107, .cells [.map none] 71 true true),
 (108, .cells [.map none] 116 true true),
 (109, .cells [.pointer (some ⟨20, 0, none⟩), .pointer (some ⟨45, 0, none⟩), .pointer (some ⟨107, 0, none⟩), .pointer (some ⟨108, 0, none⟩)] 45 true true)], 110⟩
def B2_8 : Cut := ⟨[(2, .pointer (some ⟨16, 0, none⟩)), (5, .pointer (some ⟨17, 0, none⟩)), (6, .int .i64 4), (7, .pointer (some ⟨109, 0, none⟩))], [(16, .cells [.int .i64 1, .int .i64 0, .int .i64 0, .string ⟨#[]⟩, .bool false, .int .i64 0] 25 true true),
 (17, .cells [.int .i64 0, .int .i64 0, .int .i64 0, .int .i64 0, .string ⟨#[]⟩, .bool false, .int .i64 0, .int .i64 0, .int .i64 0, .int .i64 0, .int .i64 0, .string ⟨#[]⟩, .bool false, .int .i64 0, .string ⟨#[]⟩, .int .i64 0, .int .i64 0, .int .i64 0, .int .i64 0, .bool false, .bool false, .int .i64 0, .int .i64 0, .int .i64 0, .int .i64 0, .bool false, .bool false, .int .i64 0, .slice none 0 0] 37 true true),
 (20, .cells [.slice (some ⟨34, 0, none⟩) 1 36893488147419103233, .slice (some ⟨36, 0, none⟩) 1 18446744073709551617, .map none, .slice none 0 0, .slice none 0 0] 160 true true),
 (34, .cells [.int .i64 0, .int .i64 1] 28 false true),
 (36, .cells [.bool true] 4 false true),
 (45, .cells [.slice (some ⟨104, 0, none⟩) 4 36893488147419103236, .slice (some ⟨106, 0, none⟩) 4 18446744073709551620, .map none, .slice none 0 0, .slice none 0 0] 160 true true),
 (104, .cells [.int .i64 0, .int .i64 1, .int .i64 0, .int .i64 2, .int .i64 0, .int .i64 3, .int .i64 0, .int .i64 4] 28 false true),
 (106, .cells [.bool true, .bool true, .bool true, .bool true] 4 false true),
 (107, .cells [.map none] 71 true true),
 (108, .cells [.map none] 116 true true),
 (109, .cells [.pointer (some ⟨20, 0, none⟩), .pointer (some ⟨45, 0, none⟩), .pointer (some ⟨107, 0, none⟩), .pointer (some ⟨108, 0, none⟩)] 45 true true)], 203⟩
def B2_9 : Cut := ⟨[(2, .pointer (some ⟨16, 0, none⟩)), (5, .pointer (some ⟨17, 0, none⟩)), (6, .int .i64 4), (7, .pointer (some ⟨109, 0, none⟩))], [(16, .cells [.int .i64 1, .int .i64 0, .int .i64 0, .string ⟨#[]⟩, .bool false, .int .i64 0] 25 true true),
 (17, .cells [.int .i64 0, .int .i64 0, .int .i64 0, .int .i64 0, .string ⟨#[]⟩, .bool false, .int .i64 0, .int .i64 0, .int .i64 0, .int .i64 0, .int .i64 0, .string ⟨#[]⟩, .bool false, .int .i64 0, .string ⟨#[]⟩, .int .i64 0, .int .i64 0, .int .i64 0, .int .i64 0, .bool false, .bool false, .int .i64 0, .int .i64 0, .int .i64 0, .int .i64 0, .bool false, .bool false, .int .i64 0, .slice none 0 0] 37 true true),
 (20, .cells [.slice (some ⟨34, 0, none⟩) 1 36893488147419103233, .slice (some ⟨36, 0, none⟩) 1 18446744073709551617, .map none, .slice none 0 0, .slice none 0 0] 160 true true),
 (34, .cells [.int .i64 0, .int .i64 1] 28 false true),
 (36, .cells [.bool true] 4 false true),
 (45, .cells [.slice (some ⟨104, 0, none⟩) 4 36893488147419103236, .slice (some ⟨106, 0, none⟩) 4 18446744073709551620, .map none, .slice none 0 0, .slice none 0 0] 160 true true),
 (104, .cells [.int .i64 0, .int .i64 1, .int .i64 0, .int .i64 2, .int .i64 0, .int .i64 3, .int .i64 0, .int .i64 4] 28 false true),
 (106, .cells [.bool true, .bool true, .bool true, .bool true] 4 false true),
 (107, .cells [.map (some 311)] 71 true true),
 (108, .cells [.map none] 116 true true),
 (109, .cells [.pointer (some ⟨20, 0, none⟩), .pointer (some ⟨45, 0, none⟩), .pointer (some ⟨107, 0, none⟩), .pointer (some ⟨108, 0, none⟩)] 45 true true),
 (311, .map [(.agg #[.int .i64 0, .int .i64 1, .int .i64 0, .int .i64 2], .agg #[.int .i64 2, .int .i64 0, .int .i64 0, .int .i64 0, .string ⟨#[]⟩, .bool false, .int .i64 0, .int .i64 1, .int .i64 0, .int .i64 0, .int .i64 0, .string ⟨#[]⟩, .bool false, .int .i64 0, .string ⟨#[]⟩, .int .i64 0, .int .i64 1, .int .i64 0, .int .i64 1, .bool false, .bool false, .int .i64 0, .int .i64 0, .int .i64 0, .int .i64 0, .bool false, .bool false, .int .i64 0, .slice none 0 0], 0), (.agg #[.int .i64 0, .int .i64 1, .int .i64 0, .int .i64 3], .agg #[.int .i64 2, .int .i64 0, .int .i64 0, .int .i64 0, .string ⟨#[]⟩, .bool false, .int .i64 0, .int .i64 1, .int .i64 0, .int .i64 0, .int .i64 0, .string ⟨#[]⟩, .bool false, .int .i64 0, .string ⟨#[]⟩, .int .i64 0, .int .i64 1, .int .i64 0, .int .i64 2, .bool false, .bool false, .int .i64 0, .int .i64 0, .int .i64 0, .int .i64 0, .bool false, .bool false, .int .i64 0, .slice none 0 0], 1), (.agg #[.int .i64 0, .int .i64 1, .int .i64 0, .int .i64 4], .agg #[.int .i64 2, .int .i64 0, .int .i64 0, .int .i64 0, .string ⟨#[]⟩, .bool false, .int .i64 0, .int .i64 1, .int .i64 0, .int .i64 0, .int .i64 0, .string ⟨#[]⟩, .bool false, .int .i64 0, .string ⟨#[]⟩, .int .i64 0, .int .i64 1, .int .i64 0, .int .i64 3, .bool false, .bool false, .int .i64 0, .int .i64 0, .int .i64 0, .int .i64 0, .bool false, .bool false, .int .i64 0, .slice none 0 0], 2)] 3)], 573⟩
def B2_10 : Cut := ⟨[(2, .pointer (some ⟨16, 0, none⟩)), (5, .pointer (some ⟨17, 0, none⟩)), (6, .int .i64 4), (9, .pointer (some ⟨587, 0, none⟩))], [(16, .cells [.int .i64 1, .int .i64 0, .int .i64 0, .string ⟨#[]⟩, .bool false, .int .i64 0] 25 true true),
 (17, .cells [.int .i64 0, .int .i64 0, .int .i64 0, .int .i64 0, .string ⟨#[]⟩, .bool false, .int .i64 0, .int .i64 0, .int .i64 0, .int .i64 0, .int .i64 0, .string ⟨#[]⟩, .bool false, .int .i64 0, .string ⟨#[]⟩, .int .i64 0, .int .i64 0, .int .i64 0, .int .i64 0, .bool false, .bool false, .int .i64 0, .int .i64 0, .int .i64 0, .int .i64 0, .bool false, .bool false, .int .i64 0, .slice none 0 0] 37 true true),
 (584, .map [] 0),
 (585, .map [(.agg #[.int .i64 0, .int .i64 1], .int .i64 0, 0), (.agg #[.int .i64 0, .int .i64 2], .int .i64 1, 1), (.agg #[.int .i64 0, .int .i64 3], .int .i64 2, 2)] 3),
 (587, .cells [.int .i64 1, .int .i64 4, .map (some 584), .map (some 585), .slice (some ⟨1533, 0, none⟩) 3 36893488147419103235, .slice (some ⟨1534, 0, none⟩) 3 73786976294838206467, .slice (some ⟨3001, 0, none⟩) 3 3, .slice (some ⟨2998, 0, none⟩) 3 3, .pointer (some ⟨2920, 0, none⟩), .pointer (some ⟨770, 0, none⟩), .int .i64 1] 99 true true),
 (767, .map [(.agg #[.int .i64 0, .int .i64 1], .bool true, 0), (.agg #[.int .i64 0, .int .i64 2], .bool true, 1), (.agg #[.int .i64 0, .int .i64 3], .bool true, 2)] 3),
 (768, .map [] 0),
 (769, .map [] 0),
 (770, .cells [.int .i64 1, .int .i64 4, .map (some 767), .slice none 0 0, .map (some 768), .map (some 769)] 149 true true),
 (1533, .cells [.int .i64 0, .int .i64 1, .int .i64 0, .int .i64 2, .int .i64 0, .int .i64 3] 84 false true),
 (1534, .cells [.int .i64 0, .int .i64 1, .int .i64 0, .int .i64 2, .int .i64 0, .int .i64 1, .int .i64 0, .int .i64 3, .int .i64 0, .int .i64 1, .int .i64 0, .int .i64 4] 49 false true),
 (2915, .cells [.slice none 0 0, .slice (some ⟨2939, 0, none⟩) 1 18446744073709551617, .slice (some ⟨2975, 0, none⟩) 1 18446744073709551617] 106 true true),
 (2917, .cells [.slice (some ⟨2957, 0, none⟩) 1 18446744073709551617, .slice (some ⟨2993, 0, none⟩) 1 18446744073709551617, .slice none 0 0] 106 true true),
 (2918, .map [(.agg #[.int .i64 1, .int .i64 0], .bool true, 0), (.agg #[.int .i64 2, .int .i64 1], .bool true, 1)] 2),
 (2920, .cells [.slice (some ⟨2915, 0, none⟩) 3 3, .slice (some ⟨2917, 0, none⟩) 3 3, .map (some 2918)] 155 true true),
 (2939, .cells [.int .i64 0] 3 false true),
 (2957, .cells [.int .i64 1] 3 false true),
 (2975, .cells [.int .i64 1] 3 false true),
 (2993, .cells [.int .i64 2] 3 false true),
 (2998, .cells [.bool false, .bool false, .bool false] 4 true true),
 (3001, .cells [.int .i64 1, .int .i64 1, .slice (some ⟨3908, 0, none⟩) 1 110680464442257309697, .int .i64 1, .int .i64 1, .slice (some ⟨4348, 0, none⟩) 1 110680464442257309697, .int .i64 1, .int .i64 1, .slice (some ⟨4788, 0, none⟩) 1 110680464442257309697] 80 true true),
 (3908, .cells [.int .i64 1, .int .i64 0, .int .i64 0, .string ⟨#[]⟩, .bool false, .int .i64 0] 25 false true),
 (4348, .cells [.int .i64 1, .int .i64 0, .int .i64 0, .string ⟨#[]⟩, .bool false, .int .i64 0] 25 false true),
 (4788, .cells [.int .i64 1, .int .i64 0, .int .i64 0, .string ⟨#[]⟩, .bool false, .int .i64 0] 25 false true)], 4826⟩
def asJ_B2 : List Value := [.func (.func 300) #[] #[.pointer (some ⟨888, 0, none⟩)], .func (.func 252) #[] #[]]
def XJ_B2 : Cut := ⟨[], [(311, .map [(.agg #[.int .i64 0, .int .i64 1, .int .i64 0, .int .i64 2], .agg #[.int .i64 2, .int .i64 0, .int .i64 0, .int .i64 0, .string ⟨#[]⟩, .bool false, .int .i64 0, .int .i64 1, .int .i64 0, .int .i64 0, .int .i64 0, .string ⟨#[]⟩, .bool false, .int .i64 0, .string ⟨#[]⟩, .int .i64 0, .int .i64 1, .int .i64 0, .int .i64 1, .bool false, .bool false, .int .i64 0, .int .i64 0, .int .i64 0, .int .i64 0, .bool false, .bool false, .int .i64 0, .slice none 0 0], 0), (.agg #[.int .i64 0, .int .i64 1, .int .i64 0, .int .i64 3], .agg #[.int .i64 2, .int .i64 0, .int .i64 0, .int .i64 0, .string ⟨#[]⟩, .bool false, .int .i64 0, .int .i64 1, .int .i64 0, .int .i64 0, .int .i64 0, .string ⟨#[]⟩, .bool false, .int .i64 0, .string ⟨#[]⟩, .int .i64 0, .int .i64 1, .int .i64 0, .int .i64 2, .bool false, .bool false, .int .i64 0, .int .i64 0, .int .i64 0, .int .i64 0, .bool false, .bool false, .int .i64 0, .slice none 0 0], 1), (.agg #[.int .i64 0, .int .i64 1, .int .i64 0, .int .i64 4], .agg #[.int .i64 2, .int .i64 0, .int .i64 0, .int .i64 0, .string ⟨#[]⟩, .bool false, .int .i64 0, .int .i64 1, .int .i64 0, .int .i64 0, .int .i64 0, .string ⟨#[]⟩, .bool false, .int .i64 0, .string ⟨#[]⟩, .int .i64 0, .int .i64 1, .int .i64 0, .int .i64 3, .bool false, .bool false, .int .i64 0, .int .i64 0, .int .i64 0, .int .i64 0, .bool false, .bool false, .int .i64 0, .slice none 0 0], 2)] 3),
 (888, .cells [.map (some 311)] 69 true true)], 889⟩
def rowJ_B2 : Nat × Nat × List Value × Nat × Bool := (3, 73786976294838206467, [.int .i64 0, .int .i64 1, .int .i64 0, .int .i64 2, .int .i64 0, .int .i64 1, .int .i64 0, .int .i64 3, .int .i64 0, .int .i64 1, .int .i64 0, .int .i64 4], 49, false)
def as_B2_44 : List Value := [.pointer (some ⟨109, 0, none⟩)]
def v_B2_44 : Value := .pointer (some ⟨785, 0, none⟩)
def X0_B2_44 : Cut := ⟨[], [(16, .cells [.int .i64 1, .int .i64 0, .int .i64 0, .string ⟨#[]⟩, .bool false, .int .i64 0] 25 true true),
 (17, .cells [.int .i64 0, .int .i64 0, .int .i64 0, .int .i64 0, .string ⟨#[]⟩, .bool false, .int .i64 0, .int .i64 0, .int .i64 0, .int .i64 0, .int .i64 0, .string ⟨#[]⟩, .bool false, .int .i64 0, .string ⟨#[]⟩, .int .i64 0, .int .i64 0, .int .i64 0, .int .i64 0, .bool false, .bool false, .int .i64 0, .int .i64 0, .int .i64 0, .int .i64 0, .bool false, .bool false, .int .i64 0, .slice none 0 0] 37 true true),
 (20, .cells [.slice (some ⟨34, 0, none⟩) 1 36893488147419103233, .slice (some ⟨36, 0, none⟩) 1 18446744073709551617, .map none, .slice none 0 0, .slice none 0 0] 160 true true),
 (34, .cells [.int .i64 0, .int .i64 1] 28 false true),
 (36, .cells [.bool true] 4 false true),
 (45, .cells [.slice (some ⟨104, 0, none⟩) 4 36893488147419103236, .slice (some ⟨106, 0, none⟩) 4 18446744073709551620, .map none, .slice none 0 0, .slice none 0 0] 160 true true),
 (104, .cells [.int .i64 0, .int .i64 1, .int .i64 0, .int .i64 2, .int .i64 0, .int .i64 3, .int .i64 0, .int .i64 4] 28 false true),
 (106, .cells [.bool true, .bool true, .bool true, .bool true] 4 false true),
 (107, .cells [.map (some 311)] 71 true true),
 (108, .cells [.map none] 116 true true),
 (109, .cells [.pointer (some ⟨20, 0, none⟩), .pointer (some ⟨45, 0, none⟩), .pointer (some ⟨107, 0, none⟩), .pointer (some ⟨108, 0, none⟩)] 45 true true),
 (311, .map [(.agg #[.int .i64 0, .int .i64 1, .int .i64 0, .int .i64 2], .agg #[.int .i64 2, .int .i64 0, .int .i64 0, .int .i64 0, .string ⟨#[]⟩, .bool false, .int .i64 0, .int .i64 1, .int .i64 0, .int .i64 0, .int .i64 0, .string ⟨#[]⟩, .bool false, .int .i64 0, .string ⟨#[]⟩, .int .i64 0, .int .i64 1, .int .i64 0, .int .i64 1, .bool false, .bool false, .int .i64 0, .int .i64 0, .int .i64 0, .int .i64 0, .bool false, .bool false, .int .i64 0, .slice none 0 0], 0), (.agg #[.int .i64 0, .int .i64 1, .int .i64 0, .int .i64 3], .agg #[.int .i64 2, .int .i64 0, .int .i64 0, .int .i64 0, .string ⟨#[]⟩, .bool false, .int .i64 0, .int .i64 1, .int .i64 0, .int .i64 0, .int .i64 0, .string ⟨#[]⟩, .bool false, .int .i64 0, .string ⟨#[]⟩, .int .i64 0, .int .i64 1, .int .i64 0, .int .i64 2, .bool false, .bool false, .int .i64 0, .int .i64 0, .int .i64 0, .int .i64 0, .bool false, .bool false, .int .i64 0, .slice none 0 0], 1), (.agg #[.int .i64 0, .int .i64 1, .int .i64 0, .int .i64 4], .agg #[.int .i64 2, .int .i64 0, .int .i64 0, .int .i64 0, .string ⟨#[]⟩, .bool false, .int .i64 0, .int .i64 1, .int .i64 0, .int .i64 0, .int .i64 0, .string ⟨#[]⟩, .bool false, .int .i64 0, .string ⟨#[]⟩, .int .i64 0, .int .i64 1, .int .i64 0, .int .i64 3, .bool false, .bool false, .int .i64 0, .int .i64 0, .int .i64 0, .int .i64 0, .bool false, .bool false, .int .i64 0, .slice none 0 0], 2)] 3),
 (573, .cells [.iface 90 (.agg #[])] 55 true true)], 574⟩
def X1_B2_44 : Cut := ⟨[], [(16, .cells [.int .i64 1, .int .i64 0, .int .i64 0, .string ⟨#[]⟩, .bool false, .int .i64 0] 25 true true),
 (17, .cells [.int .i64 0, .int .i64 0, .int .i64 0, .int .i64 0, .string ⟨#[]⟩, .bool false, .int .i64 0, .int .i64 0, .int .i64 0, .int .i64 0, .int .i64 0, .string ⟨#[]⟩, .bool false, .int .i64 0, .string ⟨#[]⟩, .int .i64 0, .int .i64 0, .int .i64 0, .int .i64 0, .bool false, .bool false, .int .i64 0, .int .i64 0, .int .i64 0, .int .i64 0, .bool false, .bool false, .int .i64 0, .slice none 0 0] 37 true true),
 (20, .cells [.slice (some ⟨34, 0, none⟩) 1 36893488147419103233, .slice (some ⟨36, 0, none⟩) 1 18446744073709551617, .map (some 590), .slice (some ⟨591, 0, none⟩) 1 1, .slice (some ⟨623, 0, none⟩) 1 36893488147419103233] 160 true true),
 (34, .cells [.int .i64 0, .int .i64 1] 28 false true),
 (36, .cells [.bool true] 4 false true),
 (45, .cells [.slice (some ⟨104, 0, none⟩) 4 36893488147419103236, .slice (some ⟨106, 0, none⟩) 4 18446744073709551620, .map (some 624), .slice (some ⟨625, 0, none⟩) 4 4, .slice (some ⟨753, 0, none⟩) 4 36893488147419103236] 160 true true),
 (104, .cells [.int .i64 0, .int .i64 1, .int .i64 0, .int .i64 2, .int .i64 0, .int .i64 3, .int .i64 0, .int .i64 4] 28 false true),
 (106, .cells [.bool true, .bool true, .bool true, .bool true] 4 false true),
 (107, .cells [.map (some 311)] 71 true true),
 (108, .cells [.map none] 116 true true),
 (109, .cells [.pointer (some ⟨20, 0, none⟩), .pointer (some ⟨45, 0, none⟩), .pointer (some ⟨107, 0, none⟩), .pointer (some ⟨108, 0, none⟩)] 45 true true),
 (311, .map [(.agg #[.int .i64 0, .int .i64 1, .int .i64 0, .int .i64 2], .agg #[.int .i64 2, .int .i64 0, .int .i64 0, .int .i64 0, .string ⟨#[]⟩, .bool false, .int .i64 0, .int .i64 1, .int .i64 0, .int .i64 0, .int .i64 0, .string ⟨#[]⟩, .bool false, .int .i64 0, .string ⟨#[]⟩, .int .i64 0, .int .i64 1, .int .i64 0, .int .i64 1, .bool false, .bool false, .int .i64 0, .int .i64 0, .int .i64 0, .int .i64 0, .bool false, .bool false, .int .i64 0, .slice none 0 0], 0), (.agg #[.int .i64 0, .int .i64 1, .int .i64 0, .int .i64 3], .agg #[.int .i64 2, .int .i64 0, .int .i64 0, .int .i64 0, .string ⟨#[]⟩, .bool false, .int .i64 0, .int .i64 1, .int .i64 0, .int .i64 0, .int .i64 0, .string ⟨#[]⟩, .bool false, .int .i64 0, .string ⟨#[]⟩, .int .i64 0, .int .i64 1, .int .i64 0, .int .i64 2, .bool false, .bool false, .int .i64 0, .int .i64 0, .int .i64 0, .int .i64 0, .bool false, .bool false, .int .i64 0, .slice none 0 0], 1), (.agg #[.int .i64 0, .int .i64 1, .int .i64 0, .int .i64 4], .agg #[.int .i64 2, .int .i64 0, .int .i64 0, .int .i64 0, .string ⟨#[]⟩, .bool false, .int .i64 0, .int .i64 1, .int .i64 0, .int .i64 0, .int .i64 0, .string ⟨#[]⟩, .bool false, .int .i64 0, .string ⟨#[]⟩, .int .i64 0, .int .i64 1, .int .i64 0, .int .i64 3, .bool false, .bool false, .int .i64 0, .int .i64 0, .int .i64 0, .int .i64 0, .bool false, .bool false, .int .i64 0, .slice none 0 0], 2)] 3),
 (573, .cells [.iface 90 (.agg #[])] 55 true true),
 (584, .map [] 0),
 (585, .map [(.agg #[.int .i64 0, .int .i64 1], .int .i64 0, 0), (.agg #[.int .i64 0, .int .i64 2], .int .i64 1, 1), (.agg #[.int .i64 0, .int .i64 3], .int .i64 2, 2)] 3),
 (587, .cells [.int .i64 1, .int .i64 4, .map (some 584), .map (some 585), .slice (some ⟨1533, 0, none⟩) 3 36893488147419103235, .slice (some ⟨1534, 0, none⟩) 3 73786976294838206467, .slice none 0 0, .slice none 0 0, .pointer none, .pointer (some ⟨770, 0, none⟩), .int .i64 0] 99 true true),
 (590, .map [(.agg #[.int .i64 0, .int .i64 1], .int .i64 0, 0)] 1),
 (591, .cells [.int .i64 0] 3 true true),
 (623, .cells [.int .i64 0, .int .i64 1] 28 false true),
 (624, .map [(.agg #[.int .i64 0, .int .i64 1], .int .i64 0, 0), (.agg #[.int .i64 0, .int .i64 2], .int .i64 1, 1), (.agg #[.int .i64 0, .int .i64 3], .int .i64 2, 2), (.agg #[.int .i64 0, .int .i64 4], .int .i64 3, 3)] 4),
 (625, .cells [.int .i64 0, .int .i64 1, .int .i64 2, .int .i64 3] 3 true true),
 (753, .cells [.int .i64 0, .int .i64 1, .int .i64 0, .int .i64 2, .int .i64 0, .int .i64 3, .int .i64 0, .int .i64 4] 28 false true),
 (767, .map [(.agg #[.int .i64 0, .int .i64 1], .bool true, 0), (.agg #[.int .i64 0, .int .i64 2], .bool true, 1), (.agg #[.int .i64 0, .int .i64 3], .bool true, 2)] 3),
 (768, .map [] 0),
 (769, .map [] 0),
 (770, .cells [.int .i64 1, .int .i64 4, .map (some 767), .slice none 0 0, .map (some 768), .map (some 769)] 149 true true),
 (783, .map [(.agg #[.int .i64 0, .int .i64 0], .slice (some ⟨1815, 0, none⟩) 1 18446744073709551617, 0), (.agg #[.int .i64 0, .int .i64 1], .slice (some ⟨2230, 0, none⟩) 1 18446744073709551617, 1), (.agg #[.int .i64 0, .int .i64 2], .slice (some ⟨2645, 0, none⟩) 1 18446744073709551617, 2)] 3),
 (785, .cells [.pointer (some ⟨109, 0, none⟩), .pointer (some ⟨587, 0, none⟩), .slice (some ⟨1550, 0, none⟩) 3 553402322211286548483, .map (some 788), .map (some 819), .map (some 783), .nilFunc] 126 true true),
 (788, .map [(.agg #[.int .i64 0, .int .i64 1], .int .i64 0, 0)] 1),
 (819, .map [(.agg #[.int .i64 0, .int .i64 1], .int .i64 0, 0), (.agg #[.int .i64 0, .int .i64 2], .int .i64 1, 1), (.agg #[.int .i64 0, .int .i64 3], .int .i64 2, 2), (.agg #[.int .i64 0, .int .i64 4], .int .i64 3, 3)] 4),
 (1533, .cells [.int .i64 0, .int .i64 1, .int .i64 0, .int .i64 2, .int .i64 0, .int .i64 3] 84 false true),
 (1534, .cells [.int .i64 0, .int .i64 1, .int .i64 0, .int .i64 2, .int .i64 0, .int .i64 1, .int .i64 0, .int .i64 3, .int .i64 0, .int .i64 1, .int .i64 0, .int .i64 4] 49 false true),
 (1550, .cells [.int .i64 0, .int .i64 1, .int .i64 0, .int .i64 1, .int .i64 0, .int .i64 2, .int .i64 1, .int .i64 0, .int .i64 0, .int .i64 0, .string ⟨#[]⟩, .bool false, .int .i64 0, .string ⟨#[]⟩, .int .i64 0, .int .i64 1, .int .i64 0, .int .i64 1, .bool false, .bool false, .int .i64 0, .int .i64 0, .int .i64 0, .int .i64 0, .bool false, .bool false, .int .i64 0, .slice none 0 0, .slice (some ⟨1802, 0, none⟩) 1 36893488147419103233, .slice none 0 0, .int .i64 0, .int .i64 2, .int .i64 0, .int .i64 1, .int .i64 0, .int .i64 3, .int .i64 1, .int .i64 0, .int .i64 0, .int .i64 0, .string ⟨#[]⟩, .bool false, .int .i64 0, .string ⟨#[]⟩, .int .i64 0, .int .i64 1, .int .i64 0, .int .i64 2, .bool false, .bool false, .int .i64 0, .int .i64 0, .int .i64 0, .int .i64 0, .bool false, .bool false, .int .i64 0, .slice none 0 0, .slice (some ⟨2217, 0, none⟩) 1 36893488147419103233, .slice none 0 0, .int .i64 0, .int .i64 3, .int .i64 0, .int .i64 1, .int .i64 0, .int .i64 4, .int .i64 1, .int .i64 0, .int .i64 0, .int .i64 0, .string ⟨#[]⟩, .bool false, .int .i64 0, .string ⟨#[]⟩, .int .i64 0, .int .i64 1, .int .i64 0, .int .i64 3, .bool false, .bool false, .int .i64 0, .int .i64 0, .int .i64 0, .int .i64 0, .bool false, .bool false, .int .i64 0, .slice none 0 0, .slice (some ⟨2632, 0, none⟩) 1 36893488147419103233, .slice none 0 0] 87 false true),
 (1802, .cells [.int .i64 0, .int .i64 0] 84 false true),
 (1815, .cells [.int .i64 0] 3 false true),
 (2217, .cells [.int .i64 0, .int .i64 1] 84 false true),
 (2230, .cells [.int .i64 1] 3 false true),
 (2632, .cells [.int .i64 0, .int .i64 2] 84 false true),
 (2645, .cells [.int .i64 2] 3 false true)], 2796⟩
def as_B2_45 : List Value := [.pointer (some ⟨785, 0, none⟩)]
def v_B2_45 : Value := .slice (some ⟨2804, 0, none⟩) 3 3
def X0_B2_45 : Cut := ⟨[], [(16, .cells [.int .i64 1, .int .i64 0, .int .i64 0, .string ⟨#[]⟩, .bool false, .int .i64 0] 25 true true),
 (17, .cells [.int .i64 0, .int .i64 0, .int .i64 0, .int .i64 0, .string ⟨#[]⟩, .bool false, .int .i64 0, .int .i64 0, .int .i64 0, .int .i64 0, .int .i64 0, .string ⟨#[]⟩, .bool false, .int .i64 0, .string ⟨#[]⟩, .int .i64 0, .int .i64 0, .int .i64 0, .int .i64 0, .bool false, .bool false, .int .i64 0, .int .i64 0, .int .i64 0, .int .i64 0, .bool false, .bool false, .int .i64 0, .slice none 0 0] 37 true true),
 (20, .cells [.slice (some ⟨34, 0, none⟩) 1 36893488147419103233, .slice (some ⟨36, 0, none⟩) 1 18446744073709551617, .map (some 590), .slice (some ⟨591, 0, none⟩) 1 1, .slice (some ⟨623, 0, none⟩) 1 36893488147419103233] 160 true true),
 (34, .cells [.int .i64 0, .int .i64 1] 28 false true),
 (36, .cells [.bool true] 4 false true),
 (45, .cells [.slice (some ⟨104, 0, none⟩) 4 36893488147419103236, .slice (some ⟨106, 0, none⟩) 4 18446744073709551620, .map (some 624), .slice (some ⟨625, 0, none⟩) 4 4, .slice (some ⟨753, 0, none⟩) 4 36893488147419103236] 160 true true),
 (104, .cells [.int .i64 0, .int .i64 1, .int .i64 0, .int .i64 2, .int .i64 0, .int .i64 3, .int .i64 0, .int .i64 4] 28 false true),
 (106, .cells [.bool true, .bool true, .bool true, .bool true] 4 false true),
 (107, .cells [.map (some 311)] 71 true true),
 (108, .cells [.map none] 116 true true),
 (109, .cells [.pointer (some ⟨20, 0, none⟩), .pointer (some ⟨45, 0, none⟩), .pointer (some ⟨107, 0, none⟩), .pointer (some ⟨108, 0, none⟩)] 45 true true),
 (311, .map [(.agg #[.int .i64 0, .int .i64 1, .int .i64 0, .int .i64 2], .agg #[.int .i64 2, .int .i64 0, .int .i64 0, .int .i64 0, .string ⟨#[]⟩, .bool false, .int .i64 0, .int .i64 1, .int .i64 0, .int .i64 0, .int .i64 0, .string ⟨#[]⟩, .bool false, .int .i64 0, .string ⟨#[]⟩, .int .i64 0, .int .i64 1, .int .i64 0, .int .i64 1, .bool false, .bool false, .int .i64 0, .int .i64 0, .int .i64 0, .int .i64 0, .bool false, .bool false, .int .i64 0, .slice none 0 0], 0), (.agg #[.int .i64 0, .int .i64 1, .int .i64 0, .int .i64 3], .agg #[.int .i64 2, .int .i64 0, .int .i64 0, .int .i64 0, .string ⟨#[]⟩, .bool false, .int .i64 0, .int .i64 1, .int .i64 0, .int .i64 0, .int .i64 0, .string ⟨#[]⟩, .bool false, .int .i64 0, .string ⟨#[]⟩, .int .i64 0, .int .i64 1, .int .i64 0, .int .i64 2, .bool false, .bool false, .int .i64 0, .int .i64 0, .int .i64 0, .int .i64 0, .bool false, .bool false, .int .i64 0, .slice none 0 0], 1), (.agg #[.int .i64 0, .int .i64 1, .int .i64 0, .int .i64 4], .agg #[.int .i64 2, .int .i64 0, .int .i64 0, .int .i64 0, .string ⟨#[]⟩, .bool false, .int .i64 0, .int .i64 1, .int .i64 0, .int .i64 0, .int .i64 0, .string ⟨#[]⟩, .bool false, .int .i64 0, .string ⟨#[]⟩, .int .i64 0, .int .i64 1, .int .i64 0, .int .i64 3, .bool false, .bool false, .int .i64 0, .int .i64 0, .int .i64 0, .int .i64 0, .bool false, .bool false, .int .i64 0, .slice none 0 0], 2)] 3),
 (573, .cells [.iface 90 (.agg #[])] 55 true true),
 (584, .map [] 0),
 (585, .map [(.agg #[.int .i64 0, .int .i64 1], .int .i64 0, 0), (.agg #[.int .i64 0, .int .i64 2], .int .i64 1, 1), (.agg #[.int .i64 0, .int .i64 3], .int .i64 2, 2)] 3),
 (587, .cells [.int .i64 1, .int .i64 4, .map (some 584), .map (some 585), .slice (some ⟨1533, 0, none⟩) 3 36893488147419103235, .slice (some ⟨1534, 0, none⟩) 3 73786976294838206467, .slice none 0 0, .slice none 0 0, .pointer none, .pointer (some ⟨770, 0, none⟩), .int .i64 0] 99 true true),
 (590, .map [(.agg #[.int .i64 0, .int .i64 1], .int .i64 0, 0)] 1),
 (591, .cells [.int .i64 0] 3 true true),
 (623, .cells [.int .i64 0, .int .i64 1] 28 false true),
 (624, .map [(.agg #[.int .i64 0, .int .i64 1], .int .i64 0, 0), (.agg #[.int .i64 0, .int .i64 2], .int .i64 1, 1), (.agg #[.int .i64 0, .int .i64 3], .int .i64 2, 2), (.agg #[.int .i64 0, .int .i64 4], .int .i64 3, 3)] 4),
 (625, .cells [.int .i64 0, .int .i64 1, .int .i64 2, .int .i64 3] 3 true true),
 (753, .cells [.int .i64 0, .int .i64 1, .int .i64 0, .int .i64 2, .int .i64 0, .int .i64 3, .int .i64 0, .int .i64 4] 28 false true),
 (767, .map [(.agg #[.int .i64 0, .int .i64 1], .bool true, 0), (.agg #[.int .i64 0, .int .i64 2], .bool true, 1), (.agg #[.int .i64 0, .int .i64 3], .bool true, 2)] 3),
 (768, .map [] 0),
 (769, .map [] 0),
 (770, .cells [.int .i64 1, .int .i64 4, .map (some 767), .slice none 0 0, .map (some 768), .map (some 769)] 149 true true),
 (783, .map [(.agg #[.int .i64 0, .int .i64 0], .slice (some ⟨1815, 0, none⟩) 1 18446744073709551617, 0), (.agg #[.int .i64 0, .int .i64 1], .slice (some ⟨2230, 0, none⟩) 1 18446744073709551617, 1), (.agg #[.int .i64 0, .int .i64 2], .slice (some ⟨2645, 0, none⟩) 1 18446744073709551617, 2)] 3),
 (785, .cells [.pointer (some ⟨109, 0, none⟩), .pointer (some ⟨587, 0, none⟩), .slice (some ⟨1550, 0, none⟩) 3 553402322211286548483, .map (some 788), .map (some 819), .map (some 783), .func (.func 26) #[] #[.pointer (some ⟨573, 0, none⟩)]] 126 true true),
 (788, .map [(.agg #[.int .i64 0, .int .i64 1], .int .i64 0, 0)] 1),
 (819, .map [(.agg #[.int .i64 0, .int .i64 1], .int .i64 0, 0), (.agg #[.int .i64 0, .int .i64 2], .int .i64 1, 1), (.agg #[.int .i64 0, .int .i64 3], .int .i64 2, 2), (.agg #[.int .i64 0, .int .i64 4], .int .i64 3, 3)] 4),
 (1533, .cells [.int .i64 0, .int .i64 1, .int .i64 0, .int .i64 2, .int .i64 0, .int .i64 3] 84 false true),
 (1534, .cells [.int .i64 0, .int .i64 1, .int .i64 0, .int .i64 2, .int .i64 0, .int .i64 1, .int .i64 0, .int .i64 3, .int .i64 0, .int .i64 1, .int .i64 0, .int .i64 4] 49 false true),
 (1550, .cells [.int .i64 0, .int .i64 1, .int .i64 0, .int .i64 1, .int .i64 0, .int .i64 2, .int .i64 1, .int .i64 0, .int .i64 0, .int .i64 0, .string ⟨#[]⟩, .bool false, .int .i64 0, .string ⟨#[]⟩, .int .i64 0, .int .i64 1, .int .i64 0, .int .i64 1, .bool false, .bool false, .int .i64 0, .int .i64 0, .int .i64 0, .int .i64 0, .bool false, .bool false, .int .i64 0, .slice none 0 0, .slice (some ⟨1802, 0, none⟩) 1 36893488147419103233, .slice none 0 0, .int .i64 0, .int .i64 2, .int .i64 0, .int .i64 1, .int .i64 0, .int .i64 3, .int .i64 1, .int .i64 0, .int .i64 0, .int .i64 0, .string ⟨#[]⟩, .bool false, .int .i64 0, .string ⟨#[]⟩, .int .i64 0, .int .i64 1, .int .i64 0, .int .i64 2, .bool false, .bool false, .int .i64 0, .int .i64 0, .int .i64 0, .int .i64 0, .bool false, .bool false, .int .i64 0, .slice none 0 0, .slice (some ⟨2217, 0, none⟩) 1 36893488147419103233, .slice none 0 0, .int .i64 0, .int .i64 3, .int .i64 0, .int .i64 1, .int .i64 0, .int .i64 4, .int .i64 1, .int .i64 0, .int .i64 0, .int .i64 0, .string ⟨#[]⟩, .bool false, .int .i64 0, .string ⟨#[]⟩, .int .i64 0, .int .i64 1, .int .i64 0, .int .i64 3, .bool false, .bool false, .int .i64 0, .int .i64 0, .int .i64 0, .int .i64 0, .bool false, .bool false, .int .i64 0, .slice none 0 0, .slice (some ⟨2632, 0, none⟩) 1 36893488147419103233, .slice none 0 0] 87 false true),
 (1802, .cells [.int .i64 0, .int .i64 0] 84 false true),
 (1815, .cells [.int .i64 0] 3 false true),
 (2217, .cells [.int .i64 0, .int .i64 1] 84 false true),
 (2230, .cells [.int .i64 1] 3 false true),
 (2632, .cells [.int .i64 0, .int .i64 2] 84 false true),
 (2645, .cells [.int .i64 2] 3 false true)], 2796⟩
def X1_B2_45 : Cut := ⟨[], [(16, .cells [.int .i64 1, .int .i64 0, .int .i64 0, .string ⟨#[]⟩, .bool false, .int .i64 0] 25 true true),
 (17, .cells [.int .i64 0, .int .i64 0, .int .i64 0, .int .i64 0, .string ⟨#[]⟩, .bool false, .int .i64 0, .int .i64 0, .int .i64 0, .int .i64 0, .int .i64 0, .string ⟨#[]⟩, .bool false, .int .i64 0, .string ⟨#[]⟩, .int .i64 0, .int .i64 0, .int .i64 0, .int .i64 0, .bool false, .bool false, .int .i64 0, .int .i64 0, .int .i64 0, .int .i64 0, .bool false, .bool false, .int .i64 0, .slice none 0 0] 37 true true),
 (20, .cells [.slice (some ⟨34, 0, none⟩) 1 36893488147419103233, .slice (some ⟨36, 0, none⟩) 1 18446744073709551617, .map (some 590), .slice (some ⟨591, 0, none⟩) 1 1, .slice (some ⟨623, 0, none⟩) 1 36893488147419103233] 160 true true),
 (34, .cells [.int .i64 0, .int .i64 1] 28 false true),
 (36, .cells [.bool true] 4 false true),
 (45, .cells [.slice (some ⟨104, 0, none⟩) 4 36893488147419103236, .slice (some ⟨106, 0, none⟩) 4 18446744073709551620, .map (some 624), .slice (some ⟨625, 0, none⟩) 4 4, .slice (some ⟨753, 0, none⟩) 4 36893488147419103236] 160 true true),
 (104, .cells [.int .i64 0, .int .i64 1, .int .i64 0, .int .i64 2, .int .i64 0, .int .i64 3, .int .i64 0, .int .i64 4] 28 false true),
 (106, .cells [.bool true, .bool true, .bool true, .bool true] 4 false true),
 (107, .cells [.map (some 311)] 71 true true),
 (108, .cells [.map none] 116 true true),
 (109, .cells [.pointer (some ⟨20, 0, none⟩), .pointer (some ⟨45, 0, none⟩), .pointer (some ⟨107, 0, none⟩), .pointer (some ⟨108, 0, none⟩)] 45 true true),
 (311, .map [(.agg #[.int .i64 0, .int .i64 1, .int .i64 0, .int .i64 2], .agg #[.int .i64 2, .int .i64 0, .int .i64 0, .int .i64 0, .string ⟨#[]⟩, .bool false, .int .i64 0, .int .i64 1, .int .i64 0, .int .i64 0, .int .i64 0, .string ⟨#[]⟩, .bool false, .int .i64 0, .string ⟨#[]⟩, .int .i64 0, .int .i64 1, .int .i64 0, .int .i64 1, .bool false, .bool false, .int .i64 0, .int .i64 0, .int .i64 0, .int .i64 0, .bool false, .bool false, .int .i64 0, .slice none 0 0], 0), (.agg #[.int .i64 0, .int .i64 1, .int .i64 0, .int .i64 3], .agg #[.int .i64 2, .int .i64 0, .int .i64 0, .int .i64 0, .string ⟨#[]⟩, .bool false, .int .i64 0, .int .i64 1, .int .i64 0, .int .i64 0, .int .i64 0, .string ⟨#[]⟩, .bool false, .int .i64 0, .string ⟨#[]⟩, .int .i64 0, .int .i64 1, .int .i64 0, .int .i64 2, .bool false, .bool false, .int .i64 0, .int .i64 0, .int .i64 0, .int .i64 0, .bool false, .bool false, .int .i64 0, .slice none 0 0], 1), (.agg #[.int .i64 0, .int .i64 1, .int .i64 0, .int .i64 4], .agg #[.int .i64 2, .int .i64 0, .int .i64 0, .int .i64 0, .string ⟨#[]⟩, .bool false, .int .i64 0, .int .i64 1, .int .i64 0, .int .i64 0, .int .i64 0, .string ⟨#[]⟩, .bool false, .int .i64 0, .string ⟨#[]⟩, .int .i64 0, .int .i64 1, .int .i64 0, .int .i64 3, .bool false, .bool false, .int .i64 0, .int .i64 0, .int .i64 0, .int .i64 0, .bool false, .bool false, .int .i64 0, .slice none 0 0], 2)] 3),
 (573, .cells [.iface 90 (.agg #[])] 55 true true),
 (584, .map [] 0),
 (585, .map [(.agg #[.int .i64 0, .int .i64 1], .int .i64 0, 0), (.agg #[.int .i64 0, .int .i64 2], .int .i64 1, 1), (.agg #[.int .i64 0, .int .i64 3], .int .i64 2, 2)] 3),
 (587, .cells [.int .i64 1, .int .i64 4, .map (some 584), .map (some 585), .slice (some ⟨1533, 0, none⟩) 3 36893488147419103235, .slice (some ⟨1534, 0, none⟩) 3 73786976294838206467, .slice (some ⟨3001, 0, none⟩) 3 3, .slice (some ⟨2998, 0, none⟩) 3 3, .pointer (some ⟨2920, 0, none⟩), .pointer (some ⟨770, 0, none⟩), .int .i64 1] 99 true true),
 (590, .map [(.agg #[.int .i64 0, .int .i64 1], .int .i64 0, 0)] 1),
 (591, .cells [.int .i64 0] 3 true true),
 (623, .cells [.int .i64 0, .int .i64 1] 28 false true),
 (624, .map [(.agg #[.int .i64 0, .int .i64 1], .int .i64 0, 0), (.agg #[.int .i64 0, .int .i64 2], .int .i64 1, 1), (.agg #[.int .i64 0, .int .i64 3], .int .i64 2, 2), (.agg #[.int .i64 0, .int .i64 4], .int .i64 3, 3)] 4),
 (625, .cells [.int .i64 0, .int .i64 1, .int .i64 2, .int .i64 3] 3 true true),
 (753, .cells [.int .i64 0, .int .i64 1, .int .i64 0, .int .i64 2, .int .i64 0, .int .i64 3, .int .i64 0, .int .i64 4] 28 false true),
 (767, .map [(.agg #[.int .i64 0, .int .i64 1], .bool true, 0), (.agg #[.int .i64 0, .int .i64 2], .bool true, 1), (.agg #[.int .i64 0, .int .i64 3], .bool true, 2)] 3),
 (768, .map [] 0),
 (769, .map [] 0),
 (770, .cells [.int .i64 1, .int .i64 4, .map (some 767), .slice none 0 0, .map (some 768), .map (some 769)] 149 true true),
 (783, .map [(.agg #[.int .i64 0, .int .i64 0], .slice (some ⟨1815, 0, none⟩) 1 18446744073709551617, 0), (.agg #[.int .i64 0, .int .i64 1], .slice (some ⟨2230, 0, none⟩) 1 18446744073709551617, 1), (.agg #[.int .i64 0, .int .i64 2], .slice (some ⟨2645, 0, none⟩) 1 18446744073709551617, 2)] 3),
 (785, .cells [.pointer (some ⟨109, 0, none⟩), .pointer (some ⟨587, 0, none⟩), .slice (some ⟨1550, 0, none⟩) 3 553402322211286548483, .map (some 788), .map (some 819), .map (some 783), .func (.func 26) #[] #[.pointer (some ⟨573, 0, none⟩)]] 126 true true),
 (788, .map [(.agg #[.int .i64 0, .int .i64 1], .int .i64 0, 0)] 1),
 (819, .map [(.agg #[.int .i64 0, .int .i64 1], .int .i64 0, 0), (.agg #[.int .i64 0, .int .i64 2], .int .i64 1, 1), (.agg #[.int .i64 0, .int .i64 3], .int .i64 2, 2), (.agg #[.int .i64 0, .int .i64 4], .int .i64 3, 3)] 4),
 (1533, .cells [.int .i64 0, .int .i64 1, .int .i64 0, .int .i64 2, .int .i64 0, .int .i64 3] 84 false true),
 (1534, .cells [.int .i64 0, .int .i64 1, .int .i64 0, .int .i64 2, .int .i64 0, .int .i64 1, .int .i64 0, .int .i64 3, .int .i64 0, .int .i64 1, .int .i64 0, .int .i64 4] 49 false true),
 (1550, .cells [.int .i64 0, .int .i64 1, .int .i64 0, .int .i64 1, .int .i64 0, .int .i64 2, .int .i64 1, .int .i64 0, .int .i64 0, .int .i64 0, .string ⟨#[]⟩, .bool false, .int .i64 0, .string ⟨#[]⟩, .int .i64 0, .int .i64 1, .int .i64 0, .int .i64 1, .bool false, .bool false, .int .i64 0, .int .i64 0, .int .i64 0, .int .i64 0, .bool false, .bool false, .int .i64 0, .slice none 0 0, .slice (some ⟨1802, 0, none⟩) 1 36893488147419103233, .slice none 0 0, .int .i64 0, .int .i64 2, .int .i64 0, .int .i64 1, .int .i64 0, .int .i64 3, .int .i64 1, .int .i64 0, .int .i64 0, .int .i64 0, .string ⟨#[]⟩, .bool false, .int .i64 0, .string ⟨#[]⟩, .int .i64 0, .int .i64 1, .int .i64 0, .int .i64 2, .bool false, .bool false, .int .i64 0, .int .i64 0, .int .i64 0, .int .i64 0, .bool false, .bool false, .int .i64 0, .slice none 0 0, .slice (some ⟨2217, 0, none⟩) 1 36893488147419103233, .slice none 0 0, .int .i64 0, .int .i64 3, .int .i64 0, .int .i64 1, .int .i64 0, .int .i64 4, .int .i64 1, .int .i64 0, .int .i64 0, .int .i64 0, .string ⟨#[]⟩, .bool false, .int .i64 0, .string ⟨#[]⟩, .int .i64 0, .int .i64 1, .int .i64 0, .int .i64 3, .bool false, .bool false, .int .i64 0, .int .i64 0, .int .i64 0, .int .i64 0, .bool false, .bool false, .int .i64 0, .slice none 0 0, .slice (some ⟨2632, 0, none⟩) 1 36893488147419103233, .slice none 0 0] 87 false true),
 (1802, .cells [.int .i64 0, .int .i64 0] 84 false true),
 (1815, .cells [.int .i64 0] 3 false true),
 (2217, .cells [.int .i64 0, .int .i64 1] 84 false true),
 (2230, .cells [.int .i64 1] 3 false true),
 (2632, .cells [.int .i64 0, .int .i64 2] 84 false true),
 (2645, .cells [.int .i64 2] 3 false true),
 (2804, .cells [.slice none 0 0, .slice (some ⟨2856, 0, none⟩) 1 18446744073709551617, .slice (some ⟨2893, 0, none⟩) 1 18446744073709551617] 106 true true),
 (2856, .cells [.int .i64 0] 3 false true),
 (2893, .cells [.int .i64 1] 3 false true),
 (2915, .cells [.slice none 0 0, .slice (some ⟨2939, 0, none⟩) 1 18446744073709551617, .slice (some ⟨2975, 0, none⟩) 1 18446744073709551617] 106 true true),
 (2917, .cells [.slice (some ⟨2957, 0, none⟩) 1 18446744073709551617, .slice (some ⟨2993, 0, none⟩) 1 18446744073709551617, .slice none 0 0] 106 true true),
 (2918, .map [(.agg #[.int .i64 1, .int .i64 0], .bool true, 0), (.agg #[.int .i64 2, .int .i64 1], .bool true, 1)] 2),
 (2920, .cells [.slice (some ⟨2915, 0, none⟩) 3 3, .slice (some ⟨2917, 0, none⟩) 3 3, .map (some 2918)] 155 true true),
 (2939, .cells [.int .i64 0] 3 false true),
 (2957, .cells [.int .i64 1] 3 false true),
 (2975, .cells [.int .i64 1] 3 false true),
 (2993, .cells [.int .i64 2] 3 false true),
 (2998, .cells [.bool false, .bool false, .bool false] 4 true true),
 (3001, .cells [.int .i64 1, .int .i64 1, .slice (some ⟨3908, 0, none⟩) 1 110680464442257309697, .int .i64 1, .int .i64 1, .slice (some ⟨4348, 0, none⟩) 1 110680464442257309697, .int .i64 1, .int .i64 1, .slice (some ⟨4788, 0, none⟩) 1 110680464442257309697] 80 true true),
 (3908, .cells [.int .i64 1, .int .i64 0, .int .i64 0, .string ⟨#[]⟩, .bool false, .int .i64 0] 25 false true),
 (4348, .cells [.int .i64 1, .int .i64 0, .int .i64 0, .string ⟨#[]⟩, .bool false, .int .i64 0] 25 false true),
 (4788, .cells [.int .i64 1, .int .i64 0, .int .i64 0, .string ⟨#[]⟩, .bool false, .int .i64 0] 25 false true)], 4823⟩
theorem row_B2 : givesR ((amK Tryz.prog).1 250 asJ_B2 (roH XJ_B2.H)) rowJ_B2 = true := by kernel_rfl
def ovJ_B2 (call : ACall) : ACall := (acallJ 250 asJ_B2 XJ_B2 rowJ_B2 call)
def amJ_B2 (P : Program) : ACall × ARound := amZ ovJ_B2 P (envL P none none (some 2)) eqP 1000 [250] 60
theorem beg_B2 : givesB ((amJ_B2 Tryz.prog).1 44 as_B2_44 X0_B2_44.H) v_B2_44 X1_B2_44 = true := by kernel_rfl
theorem pas_B2 : givesB ((amS Tryz.prog 2).1 45 as_B2_45 X0_B2_45.H) v_B2_45 X1_B2_45 = true := by kernel_rfl
def ovG_B2 (call : ACall) : ACall := (acallZ 44 as_B2_44 X0_B2_44 v_B2_44 X1_B2_44 (acallZ 45 as_B2_45 X0_B2_45 v_B2_45 X1_B2_45 call))
def amG_B2 (P : Program) : ACall × ARound := amZ ovG_B2 P (envL P none none (some 2)) eqP 1000 [250] 60
theorem p1_B2_1 : reaches (acode Tryz.prog (envL Tryz.prog none none none) eqP (amB Tryz.prog false none).1 (amB Tryz.prog false none).2 Tryz.f3.ntmps 1000 none (seqL (cAt 0 (bodyOf Tryz.f3))) (atmps [vTok, .complex .f64 0 4] 0 .nil) (tabsH []) []) B2_1 = true := by kernel_rfl
theorem p1_B2_2 : reaches (acode Tryz.prog (envL Tryz.prog none (some true) none) eqP (amB Tryz.prog true (some true)).1 (amB Tryz.prog true (some true)).2 Tryz.f3.ntmps 1000 none (seqL (cAt 0 (bodyOf Tryz.f3))) (atmps [vTok, .complex .f64 0 4] 0 .nil) (tabsH []) []) B2_1 = true := by kernel_rfl
theorem p2_B2_1 : reaches (acode Tryz.prog (envL Tryz.prog none none none) eqP (amB Tryz.prog false none).1 (amB Tryz.prog false none).2 Tryz.f3.ntmps 1000 none (seqL (cAt 1 (bodyOf Tryz.f3))) B2_1.T B2_1.H []) B2_2 = true := by kernel_rfl
theorem p2_B2_2 : reaches (acode Tryz.prog (envL Tryz.prog none (some true) none) eqP (amB Tryz.prog true (some true)).1 (amB Tryz.prog true (some true)).2 Tryz.f3.ntmps 1000 none (seqL (cAt 1 (bodyOf Tryz.f3))) B2_1.T B2_1.H []) B2_2 = true := by kernel_rfl
theorem p3_B2_1 : reaches (acode Tryz.prog (envL Tryz.prog none none none) eqP (amB Tryz.prog false none).1 (amB Tryz.prog false none).2 Tryz.f3.ntmps 1000 none (seqL (cAt 2 (bodyOf Tryz.f3))) B2_2.T B2_2.H []) B2_3 = true := by kernel_rfl
theorem p3_B2_2 : reaches (acode Tryz.prog (envL Tryz.prog none (some true) none) eqP (amB Tryz.prog true (some true)).1 (amB Tryz.prog true (some true)).2 Tryz.f3.ntmps 1000 none (seqL (cAt 2 (bodyOf Tryz.f3))) B2_2.T B2_2.H []) B2_3 = true := by kernel_rfl
theorem p4_B2_1 : reaches (acode Tryz.prog (envL Tryz.prog none none none) eqP (amB Tryz.prog false none).1 (amB Tryz.prog false none).2 Tryz.f3.ntmps 1000 none (seqL (cAt 3 (bodyOf Tryz.f3))) B2_3.T B2_3.H []) B2_4 = true := by kernel_rfl
theorem p4_B2_2 : reaches (acode Tryz.prog (envL Tryz.prog none (some true) none) eqP (amB Tryz.prog true (some true)).1 (amB Tryz.prog true (some true)).2 Tryz.f3.ntmps 1000 none (seqL (cAt 3 (bodyOf Tryz.f3))) B2_3.T B2_3.H []) B2_4 = true := by kernel_rfl
theorem p5_B2 : reaches (acode Tryz.prog (envL Tryz.prog none none (some 2)) eqP (amS Tryz.prog 2).1 (amS Tryz.prog 2).2 Tryz.f3.ntmps 1000 none (seqL (cAt 4 (bodyOf Tryz.f3))) B2_4.T B2_4.H []) B2_5 = true := by kernel_rfl
theorem p6_B2 : reaches (acode Tryz.prog (envL Tryz.prog none none (some 2)) eqP (amS Tryz.prog 2).1 (amS Tryz.prog 2).2 Tryz.f3.ntmps 1000 none (seqL (cAt 5 (bodyOf Tryz.f3))) B2_5.T B2_5.H []) B2_6 = true := by kernel_rfl
theorem p7_B2 : reaches (acode Tryz.prog (envL Tryz.prog none none (some 2)) eqP (amS Tryz.prog 2).1 (amS Tryz.prog 2).2 Tryz.f3.ntmps 1000 none (seqL (cAt 6 (bodyOf Tryz.f3))) B2_6.T B2_6.H []) B2_7 = true := by kernel_rfl
theorem p8_B2 : reaches (acode Tryz.prog (envL Tryz.prog none none (some 2)) eqP (amS Tryz.prog 2).1 (amS Tryz.prog 2).2 Tryz.f3.ntmps 1000 none (seqL (cAt 7 (bodyOf Tryz.f3))) B2_7.T B2_7.H []) B2_8 = true := by kernel_rfl
theorem p9_B2 : reaches (acode Tryz.prog (envL Tryz.prog none none (some 2)) eqP (amS Tryz.prog 2).1 (amS Tryz.prog 2).2 Tryz.f3.ntmps 1000 none (seqL (cAt 8 (bodyOf Tryz.f3))) B2_8.T B2_8.H []) B2_9 = true := by kernel_rfl
theorem p10_B2 : reaches (acode Tryz.prog (envL Tryz.prog none none (some 2)) eqP (amG_B2 Tryz.prog).1 (amG_B2 Tryz.prog).2 Tryz.f3.ntmps 1000 none (seqL (cAt 9 (bodyOf Tryz.f3))) B2_9.T B2_9.H []) B2_10 = true := by kernel_rfl
theorem p11_B2 : tellsC (envL Tryz.prog none none (some 2)) Tryz.f3 (acode Tryz.prog (envL Tryz.prog none none (some 2)) eqP (amS Tryz.prog 2).1 (amS Tryz.prog 2).2 Tryz.f3.ntmps 1000 none (cAt 10 (bodyOf Tryz.f3)) B2_10.T B2_10.H []) = true := by kernel_rfl
end AM
end Go.Proofs.YtgdkdmcjjcgcaaaGreatDoor
