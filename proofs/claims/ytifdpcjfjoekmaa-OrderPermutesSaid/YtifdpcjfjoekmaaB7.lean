/-
  counterpanelaw30.awake: its contract. No condition.
-/
import Derived.Test.YtifdpcjfjoekmaaB6
namespace Go.Proofs.Ytifdpcjfjoekmaa
open Go.RowKit

/-- The law is awake: it tells so. -/
def AwakeP (w : World) (e : Ending) (w' : World) : Prop := e = .returned (.bool true) ∧ Below w.heap.size w w'
theorem Blk.next' {w w' : World} {g : Nat} {e : TypeId} {cs : Array Value} (h : Blk w g e cs) (k : Below w.heap.size w w') : Blk w' g e cs := h.kept (k.block _ h.lt)
set_option maxRecDepth 100000 in
set_option maxHeartbeats 4000000 in
theorem awake_c (w : World) : Calls Try.prog 7 #[] w (AwakeP w) := by
  go_enter Try.func7, Try.ntmps7
  go_wp2_with fail
  refine (aclo_c 2 _).mono ?_
  rintro e u1 ⟨X1, rfl, _, bb, hX⟩
  have E1 := Lib.hid (Awk.call1 (kd := false) (v1 := undef) (v3 := undef) (v4 := undef) (v6 := undef) (b3 := false) (b6 := false) ⟨Below.refl _ _, (fun e => nomatch e), (fun e => nomatch e), (fun e => nomatch e), (fun e => nomatch e)⟩ bb hX)
  clear bb hX
  go_wp2_with fail
  refine (aclo_c 1 _).mono ?_
  rintro e w1 ⟨Y1, rfl, _, bb, hX⟩
  have E3 := Lib.hid (E1.out.call3 bb hX)
  clear bb hX E1
  go_wp2_with fail
  have e6 := E3.out.new4.new6
  rw [World.size_alloc] at e6
  have E6 := Lib.hid e6
  clear E3 e6
  refine Calls.mono (awk_call E6.out) ?_
  rintro e y1 ⟨g1, c1, rfl, bb, hX⟩
  have B1 := Lib.hid (E6.out.below.trans (bb.mono E6.out.below.size))
  have G1 := Lib.hid hX
  clear bb hX E6
  go_wp2_with fail
  refine (aclo_c 2 _).mono ?_
  rintro e u2 ⟨X2, rfl, _, bb, hX⟩
  have E1 := Lib.hid (Awk.call1 (kd := true) (v1 := undef) (v3 := undef) (v4 := undef) (v6 := undef) (b3 := false) (b6 := false) ⟨Below.refl _ _, (fun e => nomatch e), (fun e => nomatch e), (fun e => nomatch e), (fun e => nomatch e)⟩ bb hX)
  clear bb hX
  go_wp2_with fail
  refine (aclo_c 1 _).mono ?_
  rintro e w2 ⟨Y2, rfl, _, bb, hX⟩
  have E3 := Lib.hid (E1.out.call3 bb hX)
  clear bb hX E1
  go_wp2_with fail
  have e6 := E3.out.new4.new6
  rw [World.size_alloc] at e6
  have E6 := Lib.hid e6
  clear E3 e6
  refine Calls.mono (awk_call E6.out) ?_
  rintro e y2 ⟨g2, c2, rfl, bb, hX⟩
  have B2 := Lib.hid (E6.out.below.trans (bb.mono E6.out.below.size))
  have G2 := Lib.hid hX
  clear bb hX E6
  have H1 := Lib.hid (G1.out.next' B2.out)
  have a0 := H1.out.cell 0
  have a1 := H1.out.cell 1
  have a2 := H1.out.cell 2
  have c0 := G2.out.cell 0
  have c1 := G2.out.cell 1
  have c2 := G2.out.cell 2
  simp only [awkD, natA, if_true, Bool.false_eq_true, if_false, List.map_cons, List.map_nil, List.getElem?_toArray, List.getElem?_cons_zero, List.getElem?_cons_succ] at a0 a1 a2 c0 c1 c2
  go_wp2_with fail
  go_ret
  exact ⟨rfl, B1.out.trans (B2.out.mono B1.out.size)⟩
end Go.Proofs.Ytifdpcjfjoekmaa
