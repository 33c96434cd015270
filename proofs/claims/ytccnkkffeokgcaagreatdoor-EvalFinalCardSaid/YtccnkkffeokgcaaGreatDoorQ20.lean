/-
  EvalFinal: what any array comes to at the end, twice over. Condition: the array can be read; at most 4096 values.
-/
import Derived.Test.YtccnkkffeokgcaaGreatDoorQ19
namespace Go.Proofs.YtccnkkffeokgcaaGreatDoor
open Go.RowKit
theorem fin_fin (x : Val) : fin (fin x) = fin x := by
  by_cases h : x.kind = 0 <;> simp [fin, h]
theorem map_fin_fin (l : List Val) : (l.map fin).map fin = l.map fin := by
  rw [List.map_map]; exact List.map_congr_left fun x _ => fin_fin x
theorem rightA_fin {r c : Int} {l : List Val} (h : RightA r c l) : RightA r c (l.map fin) :=
  ⟨h.r1, h.c1, by rw [List.length_map]; exact h.len, fun v hv => by
    obtain ⟨x, hx, rfl⟩ := List.mem_map.1 hv
    exact right_fin (h.all x hx)⟩
theorem rightA_bad : RightA 1 1 [badV 9] := ⟨by omega, by omega, by rfl, fun v hv => by rw [List.mem_singleton.1 hv]; exact rightV_bad 9⟩
theorem fin_bad : fin (badV 9) = badV 9 := by rw [badV_in (by omega)]; rfl
/-- What an array comes to: it may be, it comes to itself, and both functions tell it. -/
theorem both_c (r c : Int) (A : Option Addr) (n ca : Nat) (l : List Val) (w : World) (hA : ManyR Val.cs 6 w A l) (hn : l.length = n) (hm : n ≤ 4096) (hf : ∀ v ∈ l, FitsV v) :
    ∃ (r' c' : Int) (l' : List Val), RightA r' c' l' ∧ l'.map fin = l' ∧ (∀ v ∈ l', FitsV v) ∧ l'.length ≤ 4096 ∧
      (∀ W, Below w.heap.size w W → Calls Tryz.prog 5 #[.agg #[.int .i64 r, .int .i64 c, .slice A n ca]] W (RetA W r' c' l')) ∧
      (∀ W, Below w.heap.size w W → Calls Tryz.prog 7 #[.agg #[.int .i64 r, .int .i64 c, .slice A n ca]] W (RetA W r' c' l')) := by
  by_cases h : RightA r c l
  · refine ⟨r, c, l.map fin, rightA_fin h, map_fin_fin l, fun v hv => ?_, by rw [List.length_map, hn]; exact hm, fun W hW => (final_c r c A n ca l W (hA.next hW) hn hm hf).mono fun e w' h' => h'.1 h, fun W hW => (rfinal_c r c A n ca l W (hA.next hW) hn hm hf).mono fun e w' h' => h'.1 h⟩
    obtain ⟨x, hx, rfl⟩ := List.mem_map.1 hv
    exact fits_fin (hf x hx)
  · refine ⟨1, 1, [badV 9], rightA_bad, by rw [List.map_cons, List.map_nil, fin_bad], fun v hv => ?_, by simp, fun W hW => (final_c r c A n ca l W (hA.next hW) hn hm hf).mono fun e w' h' => h'.2 h, fun W hW => (rfinal_c r c A n ca l W (hA.next hW) hn hm hf).mono fun e w' h' => h'.2 h⟩
    rw [List.mem_singleton.1 hv]; exact fits_bad9
/-- An array that came out comes to itself. -/
theorem again_c {r c : Int} {A : Option Addr} {n ca : Nat} {l : List Val} {w : World} (hA : ManyR Val.cs 6 w A l) (hn : l.length = n) (hm : l.length ≤ 4096) (hf : ∀ v ∈ l, FitsV v) (hr : RightA r c l) (hi : l.map fin = l) :
    Calls Tryz.prog 5 #[.agg #[.int .i64 r, .int .i64 c, .slice A n ca]] w (RetA w r c l) :=
  (final_c r c A n ca l w hA hn (by omega) hf).mono fun e w' h' => by have := h'.1 hr; rwa [hi] at this
/-- The same twice. -/
theorem sametrue_c {r c : Int} {A A' : Option Addr} {n ca n' ca' : Nat} {l : List Val} {w : World} (hA : ManyR Val.cs 6 w A l) (hA' : ManyR Val.cs 6 w A' l) (hn : l.length = n) (hn' : l.length = n') (hm : l.length ≤ 4096) :
    Calls Tryz.prog 6 #[.agg #[.int .i64 r, .int .i64 c, .slice A n ca], .agg #[.int .i64 r, .int .i64 c, .slice A' n' ca']] w fun e w' => e = .returned (.bool true) ∧ Below w.heap.size w w' :=
  (same_c r c r c A A' n ca n' ca' l l w hA hA' hn hn' (by omega)).mono fun e w' ⟨b, h1, h2, h3⟩ => by
    have : b = true := h2.2 ⟨rfl, rfl, rfl⟩
    subst this
    exact ⟨h1, h3⟩
end Go.Proofs.YtccnkkffeokgcaaGreatDoor
