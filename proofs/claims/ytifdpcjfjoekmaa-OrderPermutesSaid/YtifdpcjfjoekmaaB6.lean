/-
  The rows that counterpanelaw30.awake asks about: what order.Permutation answers. No program walk but by its contract.
-/
import Derived.Test.YtifdpcjfjoekmaaB5
namespace Go.Proofs.Ytifdpcjfjoekmaa
open Go.RowKit

/-- The rows and keys of one question, as far as they stand. -/
structure Awk (V : World) (kd : Bool) (b1 b3 b4 b6 : Bool) (v1 v3 v4 v6 : Value) (W : World) : Prop where
  below : Below V.heap.size V W
  r1 : b1 = true → ∃ X, v1 = .slice (some ⟨X, 0, none⟩) 1 1 ∧ Blk W X 42 (oneV 2).cs.toArray
  r3 : b3 = true → ∃ X, v3 = .slice (some ⟨X, 0, none⟩) 1 1 ∧ Blk W X 42 (oneV 1).cs.toArray
  r4 : b4 = true → ∃ X, v4 = .slice (some ⟨X, 0, none⟩) 3 3 ∧ Blk W X 34 #[v1, .slice none 0 0, v3]
  r6 : b6 = true → ∃ X, v6 = .slice (some ⟨X, 0, none⟩) 1 1 ∧ Blk W X 37 #[.int .i64 0, .bool kd]
section
variable {V W W' : World} {kd b1 b3 b4 b6 : Bool} {v1 v3 v4 v6 : Value}
theorem Awk.next (h : Awk V kd b1 b3 b4 b6 v1 v3 v4 v6 W) (k : Below W.heap.size W W') : Awk V kd b1 b3 b4 b6 v1 v3 v4 v6 W' :=
  ⟨h.below.trans (k.mono h.below.size), fun e => by obtain ⟨X, h1, h3⟩ := h.r1 e; exact ⟨X, h1, h3.kept (k.block _ h3.lt)⟩, fun e => by obtain ⟨X, h1, h3⟩ := h.r3 e; exact ⟨X, h1, h3.kept (k.block _ h3.lt)⟩,
   fun e => by obtain ⟨X, h1, h3⟩ := h.r4 e; exact ⟨X, h1, h3.kept (k.block _ h3.lt)⟩, fun e => by obtain ⟨X, h1, h3⟩ := h.r6 e; exact ⟨X, h1, h3.kept (k.block _ h3.lt)⟩⟩
theorem Awk.call1 (h : Awk V kd false b3 false b6 v1 v3 v4 v6 W) {X : Nat} (k : Below W.heap.size W W') (hX : Blk W' X 42 (oneV 2).cs.toArray) : Awk V kd true b3 false b6 (.slice (some ⟨X, 0, none⟩) 1 1) v3 v4 v6 W' :=
  have n := h.next k
  ⟨n.below, fun _ => ⟨X, rfl, hX⟩, n.r3, (fun e => nomatch e), n.r6⟩
theorem Awk.call3 (h : Awk V kd b1 false false b6 v1 v3 v4 v6 W) {X : Nat} (k : Below W.heap.size W W') (hX : Blk W' X 42 (oneV 1).cs.toArray) : Awk V kd b1 true false b6 v1 (.slice (some ⟨X, 0, none⟩) 1 1) v4 v6 W' :=
  have n := h.next k
  ⟨n.below, n.r1, fun _ => ⟨X, rfl, hX⟩, (fun e => nomatch e), n.r6⟩
theorem Awk.new4 (h : Awk V kd b1 b3 false b6 v1 v3 v4 v6 W) : Awk V kd b1 b3 true b6 v1 v3 (.slice (some ⟨W.heap.size, 0, none⟩) 3 3) v6 (W.alloc (.cells #[v1, .slice none 0 0, v3] 34)) :=
  have n := h.next ((Below.refl _ W).alloc (Nat.le_refl _) _)
  ⟨n.below, n.r1, n.r3, fun _ => ⟨_, rfl, Blk.new W 34 _⟩, n.r6⟩
theorem Awk.new6 (h : Awk V kd b1 b3 b4 false v1 v3 v4 v6 W) : Awk V kd b1 b3 b4 true v1 v3 v4 (.slice (some ⟨W.heap.size, 0, none⟩) 1 1) (W.alloc (.cells #[.int .i64 0, .bool kd] 37)) :=
  have n := h.next ((Below.refl _ W).alloc (Nat.le_refl _) _)
  ⟨n.below, n.r1, n.r3, n.r4, fun _ => ⟨_, rfl, Blk.new W 37 _⟩⟩
end
theorem ManyR.one {α : Type} {f : α → List Value} {k : Nat} {w : World} {X : Nat} {ty : TypeId} {z : α} (h : Blk w X ty (f z).toArray) : ManyR f k w (some ⟨X, 0, none⟩) [z] := fun _ =>
  ⟨X, 0, rfl, h.lt, fun i hi j v hv => by
    have : i = 0 := by simpa using hi
    subst this
    rw [show (0 + 0 * k + j : Nat) = j from by omega, h.cell j]
    simpa using hv⟩
theorem ManyR.none {α : Type} {f : α → List Value} {k : Nat} {w : World} : ManyR f k w Option.none [] := fun e => absurd rfl e
/-- The answer of order.Permutation at the question. -/
def awkD (kd : Bool) : List Nat := if kd then [0, 2, 1] else [2, 0, 1]
def AwkP (w : World) (kd : Bool) (e : Ending) (w' : World) : Prop := ∃ g c, e = .returned (.slice (some ⟨g, 0, none⟩) 3 c) ∧ Below w.heap.size w w' ∧ Blk w' g 3 (natA (awkD kd))
theorem one_ok (m : Int) (h : m = 1 ∨ m = 2) : RowOk [oneV m] := fun v hv => by
  rw [List.mem_singleton.1 hv]
  refine ⟨⟨fun _ => ⟨?_, ?_, ?_, ?_, ?_, ?_⟩, show (0 : Nat) ≤ 1000000 by omega⟩, show (0 : Int) ≤ 1 by omega, show (1 : Int) ≤ 4 by omega⟩
  all_goals rcases h with rfl | rfl <;> decide
theorem awk_sorted (kd : Bool) (rs : List RowD) (h0 : rowAt rs 0 = [oneV 2]) (h1 : rowAt rs 1 = []) (h2 : rowAt rs 2 = [oneV 1]) : Sorted (cmpAt rs [⟨0, kd⟩]) 3 (awkD kd) := by
  refine ⟨by cases kd <;> decide, fun p q _ hpq hq => ?_⟩
  have hp : (p = 0 ∧ q = 1) ∨ (p = 0 ∧ q = 2) ∨ (p = 1 ∧ q = 2) := by omega
  unfold T cmpAt
  cases kd <;> rcases hp with ⟨rfl, rfl⟩ | ⟨rfl, rfl⟩ | ⟨rfl, rfl⟩ <;> simp only [awkD, D, List.getD_cons_zero, List.getD_cons_succ, if_true, Bool.false_eq_true, if_false, h0, h1, h2] <;> decide
theorem awk_call {V W : World} {kd : Bool} {v1 v3 v4 v6 : Value} (h : Awk V kd true true true true v1 v3 v4 v6 W) : Calls Try.prog 9 #[v4, v6] W (AwkP W kd) := by
  obtain ⟨X1, rfl, b1⟩ := h.r1 rfl
  obtain ⟨X3, rfl, b3⟩ := h.r3 rfl
  obtain ⟨X4, rfl, b4⟩ := h.r4 rfl
  obtain ⟨X6, rfl, b6⟩ := h.r6 rfl
  have hrs : RowsR W (some ⟨X4, 0, none⟩) [⟨some ⟨X1, 0, none⟩, 1, 1, [oneV 2]⟩, ⟨none, 0, 0, []⟩, ⟨some ⟨X3, 0, none⟩, 1, 1, [oneV 1]⟩] := by
    refine ⟨fun _ => ⟨X4, 0, rfl, b4.lt, fun i hi j v hv => ?_⟩, fun r hr => ?_, fun r hr => ?_⟩
    · have hi' : i = 0 ∨ i = 1 ∨ i = 2 := by simp at hi; omega
      rcases hi' with rfl | rfl | rfl <;> (cases j with
        | zero => rw [b4.cell]; simpa [rowCell] using hv
        | succ j => simp [rowCell] at hv)
    · simp only [List.mem_cons, List.not_mem_nil, or_false] at hr
      rcases hr with rfl | rfl | rfl
      · exact ManyR.one b1
      · exact ManyR.none
      · exact ManyR.one b3
    · simp only [List.mem_cons, List.not_mem_nil, or_false] at hr
      rcases hr with rfl | rfl | rfl <;> exact ⟨rfl, by simp⟩
  refine (perm_c (some ⟨X4, 0, none⟩) (some ⟨X6, 0, none⟩) 3 3 1 1 _ [⟨0, kd⟩] W hrs (ManyR.one b6) rfl rfl (by omega) (by omega) (fun r hr => ?_)).mono ?_
  · simp only [List.mem_cons, List.not_mem_nil, or_false] at hr
    rcases hr with rfl | rfl | rfl
    · exact one_ok 2 (.inr rfl)
    · exact fun v hv => by cases hv
    · exact one_ok 1 (.inl rfl)
  · rintro e w' ⟨g, d, c, rfl, _, hb, hB, hS⟩
    refine ⟨g, c, rfl, hb, ?_⟩
    have := hS.unique (ord_of (pre_cmpK _) (rowAt _) 3) (awk_sorted kd _ rfl rfl rfl)
    rw [← this]
    exact hB
end Go.Proofs.Ytifdpcjfjoekmaa
