/-
  The last two calls of order.Permutation in OrderTwice, in a region that draws its order: the relation that the operations take on.
-/
import Derived.Test.YtifdpcjfjoekmaaB10
namespace Go.Proofs.Ytifdpcjfjoekmaa
open Go.RowKit

theorem manyR_two {α : Type} {f : α → List Value} {k : Nat} {w : World} {X : Nat} {ty : TypeId} {z1 z2 : α} (h : Blk w X ty (f z1 ++ f z2).toArray) (h1 : (f z1).length = k) : ManyR f k w (some ⟨X, 0, none⟩) [z1, z2] := fun _ =>
  ⟨X, 0, rfl, h.lt, fun i hi j v hv => by
    have hi' : i = 0 ∨ i = 1 := by simp at hi; omega
    rcases hi' with rfl | rfl
    · rw [show (0 + 0 * k + j : Nat) = j from by omega, h.cell j]
      have hj : j < (f z1).length := by
        have := (List.getElem?_eq_some_iff.1 hv).1
        simpa using this
      simp only [List.getElem?_toArray, List.getElem?_append_left hj]
      simpa using hv
    · rw [show (0 + 1 * k + j : Nat) = (f z1).length + j from by omega, h.cell]
      simp only [List.getElem?_toArray, List.getElem?_append_right (Nat.le_add_right _ _), Nat.add_sub_cancel_left]
      simpa using hv⟩
/-- A list of places that was answered. -/
def Ans (W : World) (n : Nat) (cf : Nat → Nat → Int) (v : Value) : Prop := ∃ g c d, v = .slice (some ⟨g, 0, none⟩) n c ∧ Blk W g 3 (natA d) ∧ Sorted cf n d
structure Two (V : World) (n : Nat) (ka kb : Int) (da db : Bool) (cm cn : Nat → Nat → Int) (b2 b3 b7 b8 : Bool) (v2 v3 v7 v8 : Value) (W : World) : Prop where
  below : Below V.heap.size V W
  r2 : b2 = true → ∃ Z, v2 = .slice (some ⟨Z, 0, none⟩) 1 1 ∧ Blk W Z 37 #[.int .i64 ka, .bool da]
  r3 : b3 = true → Ans W n cm v3
  r7 : b7 = true → ∃ Z, v7 = .slice (some ⟨Z, 0, none⟩) 2 2 ∧ Blk W Z 37 #[.int .i64 ka, .bool da, .int .i64 kb, .bool db]
  r8 : b8 = true → Ans W n cn v8
section
variable {V W W' : World} {n : Nat} {ka kb : Int} {da db : Bool} {cm cn : Nat → Nat → Int} {b2 b3 b7 b8 : Bool} {v2 v3 v7 v8 : Value}
theorem Ans.next (h : Ans W n cm v3) (q : Below W.heap.size W W') : Ans W' n cm v3 := by
  obtain ⟨g, c, d, h1, h2, h3⟩ := h
  exact ⟨g, c, d, h1, h2.next' q, h3⟩
theorem Two.next (h : Two V n ka kb da db cm cn b2 b3 b7 b8 v2 v3 v7 v8 W) (q : Below W.heap.size W W') : Two V n ka kb da db cm cn b2 b3 b7 b8 v2 v3 v7 v8 W' :=
  ⟨h.below.trans (q.mono h.below.size), fun e => by obtain ⟨Z, h1, h2⟩ := h.r2 e; exact ⟨Z, h1, h2.next' q⟩, fun e => (h.r3 e).next q, fun e => by obtain ⟨Z, h1, h2⟩ := h.r7 e; exact ⟨Z, h1, h2.next' q⟩, fun e => (h.r8 e).next q⟩
theorem Two.new2 (h : Two V n ka kb da db cm cn false b3 b7 b8 v2 v3 v7 v8 W) : Two V n ka kb da db cm cn true b3 b7 b8 (.slice (some ⟨W.heap.size, 0, none⟩) 1 1) v3 v7 v8 (W.alloc (.cells #[.int .i64 ka, .bool da] 37)) :=
  have q := h.next ((Below.refl _ W).alloc (Nat.le_refl _) _)
  ⟨q.below, fun _ => ⟨_, rfl, Blk.new W 37 _⟩, q.r3, q.r7, q.r8⟩
theorem Two.new7 (h : Two V n ka kb da db cm cn b2 b3 false b8 v2 v3 v7 v8 W) : Two V n ka kb da db cm cn b2 b3 true b8 v2 v3 (.slice (some ⟨W.heap.size, 0, none⟩) 2 2) v8 (W.alloc (.cells #[.int .i64 ka, .bool da, .int .i64 kb, .bool db] 37)) :=
  have q := h.next ((Below.refl _ W).alloc (Nat.le_refl _) _)
  ⟨q.below, q.r2, q.r3, fun _ => ⟨_, rfl, Blk.new W 37 _⟩, q.r8⟩
theorem Two.call3 (h : Two V n ka kb da db cm cn true false b7 b8 v2 v3 v7 v8 W) {A : Option Addr} {ca : Nat} {rs : List RowD} (hR : ∀ U, Below V.heap.size V U → RowsR U A rs) (hn : rs.length = n) (h1 : n ≤ 60) (hok : ∀ r ∈ rs, RowOk r.l) (hc : cm = cmpAt rs [⟨ka, da⟩]) :
    Calls Try.prog 9 #[.slice A n ca, v2] W (fun e W' => ∃ v', e = .returned v' ∧ Two V n ka kb da db cm cn true true b7 b8 v2 v' v7 v8 W') := by
  obtain ⟨Z, rfl, bZ⟩ := h.r2 rfl
  refine (perm_c A (some ⟨Z, 0, none⟩) n ca 1 1 rs [⟨ka, da⟩] W (hR W h.below) (ManyR.one bZ) hn rfl h1 (by omega) hok).mono ?_
  rintro e W' ⟨g, d, c, rfl, _, q, b, s⟩
  have hh := h.next q
  exact ⟨_, rfl, hh.below, hh.r2, fun _ => ⟨g, c, d, rfl, b, by rw [hc]; exact s⟩, hh.r7, hh.r8⟩
theorem Two.call8 (h : Two V n ka kb da db cm cn b2 b3 true false v2 v3 v7 v8 W) {A : Option Addr} {ca : Nat} {rs : List RowD} (hR : ∀ U, Below V.heap.size V U → RowsR U A rs) (hn : rs.length = n) (h1 : n ≤ 60) (hok : ∀ r ∈ rs, RowOk r.l) (hc : cn = cmpAt rs [⟨ka, da⟩, ⟨kb, db⟩]) :
    Calls Try.prog 9 #[.slice A n ca, v7] W (fun e W' => ∃ v', e = .returned v' ∧ Two V n ka kb da db cm cn b2 b3 true true v2 v3 v7 v' W') := by
  obtain ⟨Z, rfl, bZ⟩ := h.r7 rfl
  refine (perm_c A (some ⟨Z, 0, none⟩) n ca 2 2 rs [⟨ka, da⟩, ⟨kb, db⟩] W (hR W h.below) (manyR_two bZ rfl) hn rfl h1 (by omega) hok).mono ?_
  rintro e W' ⟨g, d, c, rfl, _, q, b, s⟩
  have hh := h.next q
  exact ⟨_, rfl, hh.below, hh.r2, hh.r3, hh.r7, fun _ => ⟨g, c, d, rfl, b, by rw [hc]; exact s⟩⟩
end
end Go.Proofs.Ytifdpcjfjoekmaa
