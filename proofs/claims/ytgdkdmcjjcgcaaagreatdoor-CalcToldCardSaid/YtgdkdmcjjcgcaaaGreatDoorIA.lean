/-
  Opening of the arguments: an api.Value; the law at it. No condition.
-/
import Derived.Test.YtgdkdmcjjcgcaaaGreatDoorCW
import Derived.Test.YtgdkdmcjjcgcaaaGreatDoorRows
import Derived.ProofKit
import Derived.Lib.SmallJoins
import Derived.Deep.Slices
import Derived.Deep.Fields
import Derived.Deep.Strs
set_option linter.unusedSectionVars false
namespace Go.Proofs.YtgdkdmcjjcgcaaaGreatDoor
open Go.RowKit Go.ChangeShapes Go.WideShapes Go.ChangeAt Go.Joins Go.Deep

theorem Tryz.cells3 : Tryz.prog.cellsOf 3 = 1 := by kernel_rfl
theorem Tryz.cells4 : Tryz.prog.cellsOf 4 = 1 := by kernel_rfl
theorem Tryz.cells9 : Tryz.prog.cellsOf 9 = 1 := by kernel_rfl
theorem Tryz.cells23 : Tryz.prog.cellsOf 23 = 2 := by kernel_rfl
theorem Tryz.cells25 : Tryz.prog.cellsOf 25 = 6 := by kernel_rfl
theorem three_of {l : List Value} (h : l.length = 3) : ∃ a b c, l = [a, b, c] := by
  match l, h with
  | [a, b, c], _ => exact ⟨a, b, c, rfl⟩
theorem fits_of_wf {n : Int} (h : (Lit.int .i64 n).wf = true) : Fits n := by
  have h1 : IntKind.i64.min = -9223372036854775808 := rfl
  have h2 : IntKind.i64.max = 9223372036854775807 := rfl
  simp only [Lit.wf, Bool.and_eq_true, decide_eq_true_eq] at h
  unfold Fits
  omega
theorem two_of {l : List Value} (h : l.length = 2) : ∃ a b, l = [a, b] := by
  match l, h with
  | [a, b], _ => exact ⟨a, b, rfl⟩
theorem six_of {l : List Value} (h : l.length = 6) : ∃ a b c d e f, l = [a, b, c, d, e, f] := by
  match l, h with
  | [a, b, c, d, e, f], _ => exact ⟨a, b, c, d, e, f, rfl⟩
theorem add_off {a : Addr} {n : Nat} : a.spot = none → a.add n = ⟨a.block, a.off + n, none⟩ := by
  intro h
  obtain ⟨b, o, s⟩ := a
  simp only at h
  subst h
  unfold Addr.add; split <;> simp_all
theorem spot_none {w : World} {a : Addr} {v : Value} (h : w.cell? a = some v) : a.spot = none := by
  unfold World.cell? at h
  split at h
  · split at h
    · cases h
    · rename_i hs; simpa using hs
  · cases h
section
variable {H : Type} {enc : TypeId × Value → H} {w : World} {base : Nat} {spare : Nat → Bool} {held : Bool}
theorem trod_number {fuel : Nat} {cs : List Value} {x : DataW H × List MemPlace} (h : DataW.trod enc Tryz.prog w base spare held fuel 23 cs = some x) : ∃ a b : Int, cs = [.int .i64 a, .int .i64 b] ∧ Fits a ∧ Fits b := by
  obtain ⟨y0, y1, n, _, hl, h0, h1⟩ := trod_struct2 Tryz.underlying23 h
  rw [Tryz.cells23] at hl
  obtain ⟨c0, c1, rfl⟩ := two_of hl
  simp only [Tryz.cells3, List.drop_zero, List.take_succ_cons, List.take_zero, List.drop_succ_cons] at h0 h1
  obtain ⟨a, e0, _, wa⟩ := DataW.trod_int Tryz.underlying3 h0
  obtain ⟨b, e1, _, wb⟩ := DataW.trod_int Tryz.underlying3 h1
  cases e0
  cases e1
  exact ⟨a, b, rfl, fits_of_wf wa, fits_of_wf wb⟩
set_option maxRecDepth 100000 in
theorem trod_val {fuel : Nat} {cs : List Value} {x : DataW H × List MemPlace} (h : DataW.trod enc Tryz.prog w base spare held fuel 25 cs = some x) : ∃ z : Val, cs = z.cs ∧ (Fits z.mant ∧ Fits z.exp) := by
  obtain ⟨xs, n, _, _, hl, hlen, hf⟩ := DataW.trod_struct Tryz.underlying25 h
  rw [Tryz.cells25] at hl
  obtain ⟨c0, c1, c2, c3, c4, c5, rfl⟩ := six_of hl
  match xs, hlen with
  | [y0, y1, y2, y3, y4], _ =>
    have h0 := hf 0 _ rfl
    have h1 := hf 1 _ rfl
    have h2 := hf 2 _ rfl
    have h3 := hf 3 _ rfl
    have h4 := hf 4 _ rfl
    simp only [Tryz.cells3, Tryz.cells4, Tryz.cells9, Tryz.cells23, List.drop_zero, List.take_succ_cons, List.take_zero, List.drop_succ_cons, List.getElem?_cons_zero, List.getElem?_cons_succ] at h0 h1 h2 h3 h4
    obtain ⟨k, e0, _, _⟩ := DataW.trod_int Tryz.underlying3 h0
    obtain ⟨m, ex, e1, fm, fe⟩ := trod_number h1
    obtain ⟨t, e2, _, _⟩ := DataW.trod_string Tryz.underlying9 h2
    obtain ⟨b, e3, _⟩ := DataW.trod_bool Tryz.underlying4 h3
    obtain ⟨f, e4, _, _⟩ := DataW.trod_int Tryz.underlying3 h4
    cases e0
    cases e1
    cases e2
    cases e3
    cases e4
    exact ⟨⟨k, m, ex, t, b, f⟩, rfl, fm, fe⟩
set_option maxRecDepth 100000 in
theorem open_value {r : Go.Reach} {b0 : Nat} {v : Value} {d : DataW H} {p : List MemPlace} (hv : Value.okWide Tryz.prog w r b0 25 v) (h : DataW.Trod enc Tryz.prog w base spare held 25 v d p) :
    ∃ z : Val, v = .agg z.cs.toArray ∧ Fits z.mant ∧ Fits z.exp := by
  obtain ⟨cs, rfl, hsz⟩ := okWide_struct Tryz.underlying25 hv
  obtain ⟨fuel, hf0⟩ := h
  obtain ⟨z, e, h1, h2⟩ := trod_val hf0
  refine ⟨z, ?_, h1, h2⟩
  have : cs = z.cs.toArray := by
    apply Array.ext'
    simpa [Value.cells] using e
  rw [this]
end
theorem walk (z : Val) (n : Int) (h1 : Fits z.mant) (h2 : Fits z.exp) (hn : (Lit.int .u8 n).wf = true) (w : World) : Calls Tryz.prog 3 #[.agg z.cs.toArray, .int .u8 n] w fun e w' => e = .returned (.bool true) ∧ Below w.heap.size w w' := by
  have m1 : IntKind.u8.min = 0 := rfl
  have m2 : IntKind.u8.max = 255 := rfl
  simp only [Lit.wf, Bool.and_eq_true, decide_eq_true_eq] at hn
  exact AM.told_c z n (by omega) (by omega) h1 h2 w
end Go.Proofs.YtgdkdmcjjcgcaaaGreatDoor
