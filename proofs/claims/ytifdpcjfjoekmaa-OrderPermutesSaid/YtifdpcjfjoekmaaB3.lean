/-
  counterpaneref02.Right: its contract. Condition: the ints fit 64 bits.
-/
import Derived.Test.YtifdpcjfjoekmaaB2
namespace Go.Proofs.Ytifdpcjfjoekmaa
open Go.RowKit

/-- It tells something; and what it tells to be right has a known kind, and a right number where it is one. -/
def RefRgtP (w : World) (x : Val) (e : Ending) (w' : World) : Prop := ∃ b : Bool, e = .returned (.bool b) ∧ (b = true → (x.kind = 1 → RightN x.mant x.exp) ∧ 0 ≤ x.kind ∧ x.kind ≤ 4) ∧ Below w.heap.size w w'
set_option maxRecDepth 100000 in
set_option maxHeartbeats 4000000 in
theorem refRight_k0 (w : World) (m ex : Int) (t : ByteArray) (b : Bool) (f : Int) (h1 : -9223372036854775808 ≤ m) (h2 : m ≤ 9223372036854775807) (h3 : -9223372036854775808 ≤ ex) (h4 : ex ≤ 9223372036854775807) :
    Calls Try.prog 15 #[.agg #[.int .i64 0, .int .i64 m, .int .i64 ex, .string t, .bool b, .int .i64 f]] w (RefRgtP w ⟨0, m, ex, t, b, f⟩) := by
  clear h1 h2 h3 h4
  go_enter Try.func15, Try.ntmps15
  go_wp2_with fail
  all_goals go_ret
  all_goals exact ⟨_, rfl, (fun h => ⟨fun h => absurd h (show ¬(0 : Int) = 1 by decide), show (0 : Int) ≤ 0 by decide, show (0 : Int) ≤ 4 by decide⟩), (Below.refl _ w).alloc (Nat.le_refl _) _⟩
set_option maxRecDepth 100000 in
set_option maxHeartbeats 4000000 in
theorem refRight_k2 (w : World) (m ex : Int) (t : ByteArray) (b : Bool) (f : Int) (h1 : -9223372036854775808 ≤ m) (h2 : m ≤ 9223372036854775807) (h3 : -9223372036854775808 ≤ ex) (h4 : ex ≤ 9223372036854775807) :
    Calls Try.prog 15 #[.agg #[.int .i64 2, .int .i64 m, .int .i64 ex, .string t, .bool b, .int .i64 f]] w (RefRgtP w ⟨2, m, ex, t, b, f⟩) := by
  clear h1 h2 h3 h4
  go_enter Try.func15, Try.ntmps15
  go_wp2_with fail
  all_goals go_ret
  all_goals exact ⟨_, rfl, (fun h => ⟨fun h => absurd h (show ¬(2 : Int) = 1 by decide), show (0 : Int) ≤ 2 by decide, show (2 : Int) ≤ 4 by decide⟩), (Below.refl _ w).alloc (Nat.le_refl _) _⟩
set_option maxRecDepth 100000 in
set_option maxHeartbeats 4000000 in
theorem refRight_k3 (w : World) (m ex : Int) (t : ByteArray) (b : Bool) (f : Int) (h1 : -9223372036854775808 ≤ m) (h2 : m ≤ 9223372036854775807) (h3 : -9223372036854775808 ≤ ex) (h4 : ex ≤ 9223372036854775807) :
    Calls Try.prog 15 #[.agg #[.int .i64 3, .int .i64 m, .int .i64 ex, .string t, .bool b, .int .i64 f]] w (RefRgtP w ⟨3, m, ex, t, b, f⟩) := by
  clear h1 h2 h3 h4
  go_enter Try.func15, Try.ntmps15
  go_wp2_with fail
  all_goals go_ret
  all_goals exact ⟨_, rfl, (fun h => ⟨fun h => absurd h (show ¬(3 : Int) = 1 by decide), show (0 : Int) ≤ 3 by decide, show (3 : Int) ≤ 4 by decide⟩), (Below.refl _ w).alloc (Nat.le_refl _) _⟩
set_option maxRecDepth 100000 in
set_option maxHeartbeats 4000000 in
theorem refRight_k4 (w : World) (m ex : Int) (t : ByteArray) (b : Bool) (f : Int) (h1 : -9223372036854775808 ≤ m) (h2 : m ≤ 9223372036854775807) (h3 : -9223372036854775808 ≤ ex) (h4 : ex ≤ 9223372036854775807) :
    Calls Try.prog 15 #[.agg #[.int .i64 4, .int .i64 m, .int .i64 ex, .string t, .bool b, .int .i64 f]] w (RefRgtP w ⟨4, m, ex, t, b, f⟩) := by
  clear h1 h2 h3 h4
  go_enter Try.func15, Try.ntmps15
  go_wp2_with fail
  all_goals go_ret
  all_goals exact ⟨_, rfl, (fun h => ⟨fun h => absurd h (show ¬(4 : Int) = 1 by decide), show (0 : Int) ≤ 4 by decide, show (4 : Int) ≤ 4 by decide⟩), (Below.refl _ w).alloc (Nat.le_refl _) _⟩
set_option maxRecDepth 100000 in
set_option maxHeartbeats 4000000 in
theorem refRight_k1 (w : World) (m ex : Int) (t : ByteArray) (b : Bool) (f : Int) (h1 : -9223372036854775808 ≤ m) (h2 : m ≤ 9223372036854775807) (h3 : -9223372036854775808 ≤ ex) (h4 : ex ≤ 9223372036854775807) :
    Calls Try.prog 15 #[.agg #[.int .i64 1, .int .i64 m, .int .i64 ex, .string t, .bool b, .int .i64 f]] w (RefRgtP w ⟨1, m, ex, t, b, f⟩) := by
  have HR := Lib.hid (show ∀ m' ex' : Int, m' = m → ex' = ex → ∀ w', Calls Try.prog 22 #[.agg #[.int .i64 m', .int .i64 ex']] w' (RgtP w' m ex) from fun m' ex' e1 e2 w' => by subst e1; subst e2; exact rright_c _ _ h1 h2 h3 h4 w')
  clear h1 h2 h3 h4
  go_enter Try.func15, Try.ntmps15
  go_wp2_with fail
  all_goals first
    | (go_ret; exact ⟨false, rfl, (fun h => by cases h), (Below.refl _ w).alloc (Nat.le_refl _) _⟩)
    | (refine Calls.mono (HR.out _ _ (by omega) (by omega) _) ?_
       rintro e w1 ⟨b1, rfl, r1, B1⟩
       have HB1 := Lib.hid (show Below w.heap.size w w1 from ((Below.refl _ w).alloc (Nat.le_refl _) _).trans (B1.mono (by simp)))
       have HR1 := Lib.hid r1
       clear r1 B1
       go_wp2_with fail
       go_ret
       exact ⟨b1, rfl, fun h => ⟨fun _ => HR1.out.1 h, show (0 : Int) ≤ 1 by decide, show (1 : Int) ≤ 4 by decide⟩, HB1.out⟩)
set_option maxRecDepth 100000 in
set_option maxHeartbeats 4000000 in
theorem refRight_kk (w : World) (k : Int) (k0 : ¬k = 0) (k1 : ¬k = 1) (k2 : ¬k = 2) (k3 : ¬k = 3) (k4 : ¬k = 4) (m ex : Int) (t : ByteArray) (b : Bool) (f : Int) (h1 : -9223372036854775808 ≤ m) (h2 : m ≤ 9223372036854775807) (h3 : -9223372036854775808 ≤ ex) (h4 : ex ≤ 9223372036854775807) :
    Calls Try.prog 15 #[.agg #[.int .i64 k, .int .i64 m, .int .i64 ex, .string t, .bool b, .int .i64 f]] w (RefRgtP w ⟨k, m, ex, t, b, f⟩) := by
  clear h1 h2 h3 h4
  go_enter Try.func15, Try.ntmps15
  go_wp2_with fail
  all_goals go_ret
  all_goals exact ⟨_, rfl, (fun h => by first | cases h | (simp at h; omega)), (Below.refl _ w).alloc (Nat.le_refl _) _⟩
theorem refRight_c (x : Val) (w : World) (h1 : -9223372036854775808 ≤ x.mant) (h2 : x.mant ≤ 9223372036854775807) (h3 : -9223372036854775808 ≤ x.exp) (h4 : x.exp ≤ 9223372036854775807) :
    Calls Try.prog 15 #[.agg x.cs.toArray] w (RefRgtP w x) := by
  obtain ⟨k, m, ex, t, b, f⟩ := x
  by_cases k0 : k = 0
  · subst k0; exact refRight_k0 w m ex t b f h1 h2 h3 h4
  by_cases k1 : k = 1
  · subst k1; exact refRight_k1 w m ex t b f h1 h2 h3 h4
  by_cases k2 : k = 2
  · subst k2; exact refRight_k2 w m ex t b f h1 h2 h3 h4
  by_cases k3 : k = 3
  · subst k3; exact refRight_k3 w m ex t b f h1 h2 h3 h4
  by_cases k4 : k = 4
  · subst k4; exact refRight_k4 w m ex t b f h1 h2 h3 h4
  exact refRight_kk w k k0 k1 k2 k3 k4 m ex t b f h1 h2 h3 h4
end Go.Proofs.Ytifdpcjfjoekmaa
