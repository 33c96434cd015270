/-
  Tables: maps keyed by names that a literal fills: the law at the insert; the makers of closures. No condition.
-/
import Derived.Test.YtdmbppgogdkpdaaGreatDoorA2
import Derived.Maps.OwnSet
import Derived.Lib.Hide
namespace Go.Proofs.YtdmbppgogdkpdaaGreatDoor
open Go.RowKit Go.Maps

theorem wpList_insert_own {H : Type} {P : Program} (w : World) {ops : Array Oper} {rest : List Oper} {o : Oper} {a : Act} {Q : Exit → Act → World → Prop}
    (hg : o.guard = none) (m x v : Operand) (t : TypeId) (hop : o.op = Op.insert t m x v)
    (k e : TypeId) (K : Keyed P k) (ht : P.underlying t = some (.map k e)) (R : Value → Option (DataW H × List MemPlace)) (b n : Nat) (D : DataW H)
    (hm : a.eval m = .map (some b)) (hown : w.ownsMap P k R b n D) (hn : n < maxLen) (key val : Value) (kl : Lit) (hx : a.eval x = key) (hv : a.eval v = val) (hkey : keyOf P k key = some kl)
    (d : DataW H) (ps : List MemPlace) (hval : R val = some (d, ps))
    (hK : ∀ w', w'.ownsMap P k R b (n + 1) (D.put kl d) → w.grownBy w' (some b) → wpList P ops Q rest (a.put o.dst undef) w') :
    wpList P ops Q (o :: rest) a w := by
  refine wpList_plain hg fun K' hK' => ?_
  obtain ⟨w', hrun, r1, r2⟩ := hown.update K ht hn hkey hval
  unfold Oper.wp
  simp [execOp, hop, hm, hx, hv, hrun, Result.andThen]
  exact hK' _ _ (hK w' r1 r2)
theorem law9 : Keyed Tryz.prog 9 := string_keyed Tryz.underlying9
/-- Of an entry's value nothing is told. -/
def R0 : Value → Option (DataW Unit × List MemPlace) := fun _ => some (.nil, [])
/-- A map that is under way since world w. -/
structure Tab {H : Type} (R : Value → Option (DataW H × List MemPlace)) (w : World) (b n : Nat) (D : DataW H) (W : World) : Prop where
  own : W.ownsMap Tryz.prog 9 R b n D
  below : Below w.heap.size w W
  base : w.heap.size ≤ b
section
variable {H : Type} {R : Value → Option (DataW H × List MemPlace)} {w W W' : World} {b n : Nat} {D : DataW H}
theorem Tab.lt (h : Tab R w b n D W) : b < W.heap.size := h.own.lt
theorem Tab.next (h : Tab R w b n D W) (q : Below W.heap.size W W') : Tab R w b n D W' := by
  obtain ⟨es, clock, hb, F, hs, hD⟩ := h.own
  exact ⟨⟨es, clock, (q.block b h.lt).trans hb, F, hs, hD⟩, h.below.trans (q.mono h.below.size), h.base⟩
theorem Tab.start (w : World) : Tab R w w.heap.size 0 (.map []) (w.alloc (.map #[] 0)) :=
  ⟨World.ownsMap_made _ _ _ _, (Below.refl _ _).alloc (Nat.le_refl _) _, Nat.le_refl _⟩
theorem Tab.put (h : Tab R w b n D W) {D' : DataW H} (hown : W'.ownsMap Tryz.prog 9 R b (n + 1) D') (hg : W.grownBy W' (some b)) : Tab R w b (n + 1) D' W' :=
  ⟨hown, h.below.grown hg h.below.size (fun j hj => by cases hj; exact h.base), h.base⟩
end
def MkP (w : World) (e : Ending) (w' : World) : Prop := ∃ fn a b, e = .returned (.func fn a b) ∧ Below w.heap.size w w'
theorem mk140 (fn : Fn) (a b : Array Value) (w : World) : Calls Tryz.prog 140 #[.func fn a b] w (MkP w) := by
  have hb := Lib.hid (show Below w.heap.size w (w.alloc (.cells #[.func fn a b] 162)) from (Below.refl _ _).alloc (Nat.le_refl _) _)
  go_enter Tryz.func140, Tryz.ntmps140
  go_wp2_with fail
  go_ret
  exact ⟨_, _, _, rfl, hb.out⟩
theorem mk146 (fn : Fn) (a b : Array Value) (w : World) : Calls Tryz.prog 146 #[.func fn a b] w (MkP w) := by
  have hb := Lib.hid (show Below w.heap.size w (w.alloc (.cells #[.func fn a b] 61)) from (Below.refl _ _).alloc (Nat.le_refl _) _)
  go_enter Tryz.func146, Tryz.ntmps146
  go_wp2_with fail
  go_ret
  exact ⟨_, _, _, rfl, hb.out⟩
theorem mk152 (fn : Fn) (a b : Array Value) (w : World) : Calls Tryz.prog 152 #[.func fn a b] w (MkP w) := by
  have hb := Lib.hid (show Below w.heap.size w (w.alloc (.cells #[.func fn a b] 167)) from (Below.refl _ _).alloc (Nat.le_refl _) _)
  go_enter Tryz.func152, Tryz.ntmps152
  go_wp2_with fail
  go_ret
  exact ⟨_, _, _, rfl, hb.out⟩
theorem mk158 (fn : Fn) (a b : Array Value) (w : World) : Calls Tryz.prog 158 #[.func fn a b] w (MkP w) := by
  have hb := Lib.hid (show Below w.heap.size w (w.alloc (.cells #[.func fn a b] 131)) from (Below.refl _ _).alloc (Nat.le_refl _) _)
  go_enter Tryz.func158, Tryz.ntmps158
  go_wp2_with fail
  go_ret
  exact ⟨_, _, _, rfl, hb.out⟩
theorem mk161 (fn : Fn) (a b : Array Value) (w : World) : Calls Tryz.prog 161 #[.func fn a b] w (MkP w) := by
  have hb := Lib.hid (show Below w.heap.size w (w.alloc (.cells #[.func fn a b] 63)) from (Below.refl _ _).alloc (Nat.le_refl _) _)
  go_enter Tryz.func161, Tryz.ntmps161
  go_wp2_with fail
  go_ret
  exact ⟨_, _, _, rfl, hb.out⟩
theorem mk187 (fn : Fn) (a b : Array Value) (w : World) : Calls Tryz.prog 187 #[.func fn a b] w (MkP w) := by
  have hb := Lib.hid (show Below w.heap.size w (w.alloc (.cells #[.func fn a b] 149)) from (Below.refl _ _).alloc (Nat.le_refl _) _)
  go_enter Tryz.func187, Tryz.ntmps187
  go_wp2_with fail
  go_ret
  exact ⟨_, _, _, rfl, hb.out⟩
theorem mk206 (fn : Fn) (a b : Array Value) (w : World) : Calls Tryz.prog 206 #[.func fn a b] w (MkP w) := by
  have hb := Lib.hid (show Below w.heap.size w (w.alloc (.cells #[.func fn a b] 177)) from (Below.refl _ _).alloc (Nat.le_refl _) _)
  go_enter Tryz.func206, Tryz.ntmps206
  go_wp2_with fail
  go_ret
  exact ⟨_, _, _, rfl, hb.out⟩
theorem mk167 (fn : Fn) (a b : Array Value) (A : Option Addr) (n c : Nat) (w : World) : Calls Tryz.prog 167 #[.func fn a b, .slice A n c] w (MkP w) := by
  have hb := Lib.hid (show Below w.heap.size w ((w.alloc (.cells #[.func fn a b] 171)).alloc (.cells #[.slice A n c] 214)) from ((Below.refl _ _).alloc (Nat.le_refl _) _).alloc (by simp) _)
  go_enter Tryz.func167, Tryz.ntmps167
  go_wp2_with fail
  go_ret
  exact ⟨_, _, _, rfl, hb.out⟩
theorem mk193 (k : Int) (w : World) : Calls Tryz.prog 193 #[.int .i64 k] w (MkP w) := by
  have hb := Lib.hid (show Below w.heap.size w (w.alloc (.cells #[.int .i64 k] 3)) from (Below.refl _ _).alloc (Nat.le_refl _) _)
  go_enter Tryz.func193, Tryz.ntmps193
  go_wp2_with fail
  go_ret
  exact ⟨_, _, _, rfl, hb.out⟩
/-- A closure of 'each': its box holds the function. -/
theorem mk191 (fn : Fn) (a b : Array Value) (w : World) : Calls Tryz.prog 191 #[.func fn a b] w fun e w' => e = .returned (.func (.func 279) #[] #[.pointer (some ⟨w.heap.size, 0, none⟩)]) ∧ w' = w.alloc (.cells #[.func fn a b] 83) := by
  go_enter Tryz.func191, Tryz.ntmps191
  go_wp2_with fail
  go_ret
  exact ⟨rfl, rfl⟩

end Go.Proofs.YtdmbppgogdkpdaaGreatDoor
