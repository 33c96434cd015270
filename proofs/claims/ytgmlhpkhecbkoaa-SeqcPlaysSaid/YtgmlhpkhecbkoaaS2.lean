/-
  A shared axis in memory; (*Shared).Has, prepare. Condition: it lies in memory as ShAt says.
-/
import Derived.Test.YtgmlhpkhecbkoaaS1
import Derived.Test.YtgmlhpkhecbkoaaH4
import Derived.Test.YtgmlhpkhecbkoaaR4
namespace Go.Proofs.Ytgmlhpkhecbkoaa
open Go.RowKit

def thereOf (first : List Id) (puts : List (Id × Id)) : List (Id × Value) := first.map (fun z => (z, .bool false)) ++ puts.map (fun p => (p.2, .bool true))
def byOf (cuts : List (Id × Id)) : List (Id × Value) := cuts.map (fun c => (c.2, .bool true))
def cutCells : List (Id × Id) → List Value
  | [] => []
  | x :: l => .int .i64 x.1.1 :: .int .i64 x.1.2 :: .int .i64 x.2.1 :: .int .i64 x.2.2 :: cutCells l
theorem getKV_append {α : Type} (k : Id) (a b : List (Id × α)) : getKV k (a ++ b) = (getKV k a).or (getKV k b) := by
  induction a with
  | nil => simp [getKV]
  | cons x a ih =>
    simp only [List.cons_append, getKV]
    split
    · rfl
    · exact ih
theorem getKV_map_some {α β : Type} (k : Id) (l : List β) (f : β → Id × α) : (getKV k (l.map f)).isSome = decide (k ∈ l.map (fun x => (f x).1)) := by
  induction l with
  | nil => simp [getKV]
  | cons x l ih =>
    simp only [List.map_cons, getKV, List.mem_cons]
    by_cases h : (f x).1 = k
    · rw [if_pos h]; simp [h]
    · rw [if_neg h, ih]
      have h' : ¬ k = (f x).1 := fun e => h e.symm
      simp [h']
theorem getKV_there (first : List Id) (puts : List (Id × Id)) (z : Id) : (getKV z (thereOf first puts)).isSome = has first puts z := by
  unfold thereOf has
  rw [getKV_append, Option.isSome_or, getKV_map_some, getKV_map_some]
  simp

structure ShIs (w : World) (own : Tags) (t p : Nat) (first : List Id) (puts cuts : List (Id × Id)) (vF : Value) (s h : Nat) (vD : Value) (b : Nat) (hl : List (Id × Value)) : Prop where
  tag : own p = t
  blk : Blk w p 100 #[vF, .map (some s), .map (some h), vD, .map (some b)]
  rF : Row w own t 24 2 vF first.length (idCells first)
  tS : own s = t
  mS : MapIs w s (thereOf first puts)
  tH : own h = t
  mH : MapIs w h hl
  tB : own b = t
  mB : MapIs w b (byOf cuts)
  rD : Row w own t 113 4 vD cuts.length (cutCells cuts)
  sh : s ≠ h
  sb : s ≠ b
  hb : h ≠ b
  rows : ∀ k v, getKV k hl = some v → Row w own t 24 2 v (kids puts k).length (idCells (kids puts k))
  bare : ∀ k, getKV k hl = none → kids puts k = []
  apart : ∀ k v g, getKV k hl = some v → v.ownBlock = some g → vF.ownBlock ≠ some g ∧ ∀ k' v', k' ≠ k → getKV k' hl = some v' → v'.ownBlock ≠ some g
structure ShAt (w : World) (own : Tags) (t p : Nat) (first : List Id) (puts cuts : List (Id × Id)) : Prop where
  wf : Wf first puts
  cnd : (cuts.map Prod.snd).Nodup
  is : ∃ vF s h vD b hl, ShIs w own t p first puts cuts vF s h vD b hl
section
variable {w w' : World} {own own' : Tags} {t u p s h b : Nat} {first : List Id} {puts cuts : List (Id × Id)} {vF vD : Value} {hl : List (Id × Value)}
theorem ShIs.keep (a : ShIs w own t p first puts cuts vF s h vD b hl) (k : Same t own w own' w') : ShIs w' own' t p first puts cuts vF s h vD b hl :=
  ⟨(k p a.blk.lt a.tag).2, a.blk.kept (k p a.blk.lt a.tag).1, a.rF.keep k, (k s a.mS.lt a.tS).2, a.mS.kept (k s a.mS.lt a.tS).1, (k h a.mH.lt a.tH).2, a.mH.kept (k h a.mH.lt a.tH).1, (k b a.mB.lt a.tB).2, a.mB.kept (k b a.mB.lt a.tB).1,
   a.rD.keep k, a.sh, a.sb, a.hb, fun i v hv => (a.rows i v hv).keep k, a.bare, a.apart⟩
theorem ShAt.keep (a : ShAt w own t p first puts cuts) (k : Same t own w own' w') : ShAt w' own' t p first puts cuts := by
  obtain ⟨h1, h2, vF, s, h, vD, b, hl, h3⟩ := a
  exact ⟨h1, h2, vF, s, h, vD, b, hl, h3.keep k⟩
theorem ShAt.next (a : ShAt w own t p first puts cuts) (k : Below w.heap.size w w') : ShAt w' own t p first puts cuts := a.keep (Same.below k)
theorem ShAt.other (a : ShAt w own t p first puts cuts) (k : Tr own u w own' w') (hu : t ≠ u) : ShAt w' own' t p first puts cuts := a.keep (k.toSame hu)
end

set_option maxRecDepth 100000 in
set_option maxHeartbeats 1000000 in
theorem shas_c (w : World) (own : Tags) (t p : Nat) (first : List Id) (puts cuts : List (Id × Id)) (x y : Int) (h : ShAt w own t p first puts cuts) :
    Calls Try.prog 31 #[.pointer (some ⟨p, 0, none⟩), .agg #[.int .i64 x, .int .i64 y]] w fun e w' => e = .returned (.bool (has first puts (x, y))) ∧ Below w.heap.size w w' := by
  obtain ⟨_, _, vF, s, hh, vD, b, hl, a⟩ := h
  have c1 := a.blk.cell 1
  have hp := a.blk.lt
  have hs := a.mS.lt
  have hlk := fun (nq : Nat) (o : Obj) => MapIs.look (w := (w.alloc o).drewN nq) (a.mS.kept (Below.heap_alloc w o s hs)) Try.underlying95 (zero4 _) (x, y) true
  simp only [idv, if_true] at hlk
  simp at c1
  have hk := getKV_there first puts (x, y)
  cases hg : getKV (x, y) (thereOf first puts) with
  | none =>
    rw [hg] at hk
    simp only [hg, Option.getD_none, Option.isSome_none] at hlk hk
    have E1 := Lib.hid hk
    clear hg a hk
    go_enter Try.func31, Try.ntmps31
    go_wp2
    go_quiet (fail)
    go_wp2
    go_ret
    exact ⟨ret_bool E1.out, ⟨rfl, rfl, rfl, by simp, fun k hk => Below.heap_alloc w _ k hk⟩⟩
  | some v =>
    rw [hg] at hk
    simp only [hg, Option.getD_some, Option.isSome_some] at hlk hk
    have E1 := Lib.hid hk
    clear hg a hk
    go_enter Try.func31, Try.ntmps31
    go_wp2
    go_quiet (fail)
    go_wp2
    go_ret
    exact ⟨ret_bool E1.out, ⟨rfl, rfl, rfl, by simp, fun k hk => Below.heap_alloc w _ k hk⟩⟩

set_option maxRecDepth 100000 in
set_option maxHeartbeats 1000000 in
/-- The maps are there already. -/
theorem prep_c (w : World) (own : Tags) (t p : Nat) (first : List Id) (puts cuts : List (Id × Id)) (h : ShAt w own t p first puts cuts) :
    Calls Try.prog 61 #[.pointer (some ⟨p, 0, none⟩)] w fun e w' => e = .returned (.tuple #[]) ∧ w' = w := by
  obtain ⟨_, _, vF, s, hh, vD, b, hl, a⟩ := h
  have c1 := a.blk.cell 1
  simp at c1
  clear a
  go_enter Try.func61, Try.ntmps61
  go_wp2
  go_end0
  exact ⟨rfl, rfl⟩
end Go.Proofs.Ytgmlhpkhecbkoaa
