/-
  The reference's lists of names; all of them in one. No condition.
-/
import Derived.Test.YtdmbppgogdkpdaaGreatDoorC2
namespace Go.Proofs.YtdmbppgogdkpdaaGreatDoor
open Go.RowKit Go.Maps Go.Sort Go.Shelf
theorem StrS.lit (w : World) (L : List (List UInt8)) (t : TypeId) (hn : L ≠ []) (hm : L.length ≤ maxLen) (a : Array Value) (ha : a = (L.map encStr).toArray) : StrS (w.alloc (.cells a t)) (.slice (some ⟨w.heap.size, 0, none⟩) L.length L.length) L := by
  subst ha
  refine ⟨_, _, rfl, hm, fun _ => ⟨w.heap.size, 0, rfl, rfl, by simp, fun i hi => ?_⟩⟩
  have hi' : i < L.length := by simpa using hi
  have hh := new_lies w (.cells (L.map encStr).toArray t)
  unfold World.cell?
  dsimp only
  rw [hh]
  simp [hi']
theorem sorted_names : sorted86 = namesMath ∧ sorted90 = namesText ∧ sorted93 = namesLogic ∧ sorted96 = namesLook ∧ sorted99 = namesArray := by
  refine ⟨?_, ?_, ?_, ?_, ?_⟩ <;> kernel_rfl

set_option maxRecDepth 100000 in
set_option maxHeartbeats 1000000 in
theorem refNames29 (w : World) : Calls Tryz.prog 29 #[] w fun e w' => ∃ v, e = .returned v ∧ StrS w' v namesMath ∧ Below w.heap.size w w' := by
  go_enter Tryz.func29, Tryz.ntmps29
  go_wp2_with fail
  go_ret
  exact ⟨_, rfl, StrS.lit w namesMath _ (by decide) (by decide) _ rfl, (Below.refl _ _).alloc (Nat.le_refl _) _⟩

set_option maxRecDepth 100000 in
set_option maxHeartbeats 1000000 in
theorem refNames58 (w : World) : Calls Tryz.prog 58 #[] w fun e w' => ∃ v, e = .returned v ∧ StrS w' v namesText ∧ Below w.heap.size w w' := by
  go_enter Tryz.func58, Tryz.ntmps58
  go_wp2_with fail
  go_ret
  exact ⟨_, rfl, StrS.lit w namesText _ (by decide) (by decide) _ rfl, (Below.refl _ _).alloc (Nat.le_refl _) _⟩

set_option maxRecDepth 100000 in
set_option maxHeartbeats 1000000 in
theorem refNames31 (w : World) : Calls Tryz.prog 31 #[] w fun e w' => ∃ v, e = .returned v ∧ StrS w' v namesLogic ∧ Below w.heap.size w w' := by
  go_enter Tryz.func31, Tryz.ntmps31
  go_wp2_with fail
  go_ret
  exact ⟨_, rfl, StrS.lit w namesLogic _ (by decide) (by decide) _ rfl, (Below.refl _ _).alloc (Nat.le_refl _) _⟩

set_option maxRecDepth 100000 in
set_option maxHeartbeats 1000000 in
theorem refNames33 (w : World) : Calls Tryz.prog 33 #[] w fun e w' => ∃ v, e = .returned v ∧ StrS w' v namesLook ∧ Below w.heap.size w w' := by
  go_enter Tryz.func33, Tryz.ntmps33
  go_wp2_with fail
  go_ret
  exact ⟨_, rfl, StrS.lit w namesLook _ (by decide) (by decide) _ rfl, (Below.refl _ _).alloc (Nat.le_refl _) _⟩

set_option maxRecDepth 100000 in
set_option maxHeartbeats 1000000 in
theorem refNames59 (w : World) : Calls Tryz.prog 59 #[] w fun e w' => ∃ v, e = .returned v ∧ StrS w' v namesArray ∧ Below w.heap.size w w' := by
  go_enter Tryz.func59, Tryz.ntmps59
  go_wp2_with fail
  go_ret
  exact ⟨_, rfl, StrS.lit w namesArray _ (by decide) (by decide) _ rfl, (Below.refl _ _).alloc (Nat.le_refl _) _⟩

end Go.Proofs.YtdmbppgogdkpdaaGreatDoor
