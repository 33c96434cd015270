/-
  slices.Insert of one element, at ids and at bools: general laws on memory. No condition.
-/
import Derived.Test.YtgmlhpkhecbkoaaC8
import Derived.Lib.Overlaps
import Derived.Lib.AppendZerosOnto
namespace Go.Proofs.Ytgmlhpkhecbkoaa
open Go.RowKit

theorem Blk.setRow {w : World} {g : Nat} {e : TypeId} {cur : Array Value} (h : Blk w g e cur) (cs : Array Value) : Blk (w.setRow g cs) g e cs := setRow_heap w g cur cs e (0, 0) h
theorem grownBy_setRow (w : World) (g : Nat) (cs : Array Value) : w.grownBy (w.setRow g cs) (some g) :=
  ⟨rfl, rfl, rfl, by simp [World.setRow], fun k _ hk => setRow_other w g k cs (fun e => hk (by rw [e]))⟩
def spl (cur : List Value) (o : Nat) (cs : List Value) : List Value := cur.take o ++ cs ++ cur.drop (o + cs.length)

theorem run_copy_blk {P : Program} (w : World) (T ty e e' : TypeId) (size g o dLen dCap : Nat) (ad : Addr) (sLen sCap : Nat) (cur : Array Value) (cs : List Value)
    (hT : P.underlying T = some (.slice e)) (hs : (P.info? e).map (·.size) = some size) (hg : Blk w g e' cur) (hn : cs.length = min sLen dLen * size)
    (hsrc : ∀ j v, cs[j]? = some v → w.cell? (ad.add j) = some v) (hfit : o + cs.length ≤ cur.size) (h1 : ∀ v ∈ cs, v.oneCell' = true) :
    (Builtin.copy_ #[T, T] ty #[.slice (some ⟨g, o, none⟩) dLen dCap, .slice (some ad) sLen sCap]).run P w = .ok (goInt (min sLen dLen : Nat)) (w.setRow g (spl cur.toList o cs).toArray) := by
  have hl := run_loadCells_list (P := P) w ad cs hsrc
  rw [hn] at hl
  have hst := run_storeCells_at P g o e' cs 0 cur w hg (by simpa using hfit) h1
  cases hq : P.info? e with
  | none => simp [hq] at hs
  | some i =>
    have hi : i.size = size := by simpa [hq] using hs
    simp only [Nat.add_zero] at hst
    simp [Builtin.copy_, run_underlying hT, Builtin.lenOf, Builtin.firstCells, sizeOf, typeInfo, hq, hi, hl, hst, spl]

theorem wpList_copy_blk {P : Program} {w : World} {ops : Array Oper} {rest : List Oper} {op : Oper} {a : Act} {Q : Exit → Act → World → Prop} (hgd : op.guard = none) (d s : Operand) (T : TypeId)
    (ho : op.op = .call { callee := .builtin .copy, args := #[d, s], argTypes := #[T, T] }) (e e' : TypeId) (size g o dLen dCap : Nat) (ad : Addr) (sLen sCap : Nat) (cur : Array Value) (cs : List Value)
    (hT : P.underlying T = some (.slice e)) (hs : (P.info? e).map (·.size) = some size) (hd : a.eval d = .slice (some ⟨g, o, none⟩) dLen dCap) (hx : a.eval s = .slice (some ad) sLen sCap)
    (hg : Blk w g e' cur) (hn : cs.length = min sLen dLen * size)
    (hsrc : ∀ j v, cs[j]? = some v → w.cell? (ad.add j) = some v) (hfit : o + cs.length ≤ cur.size) (h1 : ∀ v ∈ cs, v.oneCell' = true)
    (h : ∀ w', Blk w' g e' (spl cur.toList o cs).toArray → w.grownBy w' (some g) → wpList P ops Q rest (a.put op.dst (goInt (min sLen dLen : Nat))) w') : wpList P ops Q (op :: rest) a w := by
  refine wpList_plain hgd fun K hK => ?_
  have hr := run_copy_blk w T op.type e e' size g o dLen dCap ad sLen sCap cur cs hT hs hg hn hsrc hfit h1
  unfold Oper.wp execOp
  simp only [ho, resolve, invoke, builtin, Sem.run_bind, Sem.run_pure, Result.andThen_ok, List.map_toArray, List.map_cons, List.map_nil, hd, hx, hr]
  exact hK _ _ (h _ (hg.setRow _) (grownBy_setRow w g _))

/-- What slices.Insert of one element does: the row with the element at its place; that row alone, or a new one, is turned. -/
def InsP (w : World) (e : TypeId) (size : Nat) (B : Option Nat) (n : Nat) (xs : List Value) (en : Ending) (w' : World) : Prop :=
  ∃ g c, en = .returned (.slice (some ⟨g, 0, none⟩) (n + 1) c) ∧ w.grownBy w' B ∧ w'.ownsRow 0 e size (.slice (some ⟨g, 0, none⟩) (n + 1) c) (n + 1) xs ∧ (B = some g ∨ (w.heap.size ≤ g ∧ g < w'.heap.size))
theorem ownBlock_slice (A : Option Addr) (n c : Nat) : (Value.slice A n c).ownBlock = A.map (·.block) := by cases A <;> rfl
theorem spl_length (cur : List Value) (o : Nat) (cs : List Value) (h : o + cs.length ≤ cur.length) : (spl cur o cs).length = cur.length := by simp [spl]; omega
/-- Two copies: the tail one place on, then the element. -/
theorem spl_shift (cur vs : List Value) (p q s : Nat) (hv : vs.length = s) (hp : p ≤ q) (hq : q + s ≤ cur.length) :
    (spl (spl cur (p + s) ((cur.take q).drop p)) p vs).take (q + s) = (cur.take q).take p ++ vs ++ (cur.take q).drop p := by
  have e1 : (spl cur (p + s) ((cur.take q).drop p)) = cur.take (p + s) ++ ((cur.take q).drop p ++ cur.drop (q + s)) := by
    unfold spl
    rw [List.append_assoc]
    congr 3
    simp; omega
  rw [e1]
  unfold spl
  have e2 : (cur.take (p + s) ++ ((cur.take q).drop p ++ cur.drop (q + s))).take p = cur.take p := by
    rw [List.take_append_of_le_length (by simp; omega), List.take_take, Nat.min_eq_left (by omega)]
  have e3 : (cur.take (p + s) ++ ((cur.take q).drop p ++ cur.drop (q + s))).drop (p + vs.length) = (cur.take q).drop p ++ cur.drop (q + s) := by
    rw [hv, List.drop_append_of_le_length (by simp; omega), List.drop_eq_nil_of_le (by simp; omega), List.nil_append]
  rw [e2, e3, List.take_take, Nat.min_eq_left hp, ← List.append_assoc]
  have hl : (cur.take p ++ vs ++ (cur.take q).drop p).length = q + s := by simp; omega
  rw [← hl]
  exact List.take_left
/-- A new row: what stood ahead, the element, what stood from there on. -/
theorem spl_new (xs zs vs : List Value) (p s : Nat) (hv : vs.length = s) (hp : p ≤ xs.length) (hz : xs.length - p + s ≤ zs.length) :
    (spl (spl (xs.take p ++ zs) p vs) (p + s) (xs.drop p)).take (xs.length + s) = xs.take p ++ vs ++ xs.drop p := by
  have hlp : (xs.take p).length = p := by simp; omega
  have e1 : spl (xs.take p ++ zs) p vs = xs.take p ++ vs ++ zs.drop s := by
    unfold spl
    rw [List.take_append_of_le_length (by omega), List.take_take, Nat.min_self]
    congr 1
    rw [List.drop_append, List.drop_eq_nil_of_le (by omega), List.nil_append, hlp, hv]
    congr 1; omega
  rw [e1]
  have hl2 : (xs.take p ++ vs).length = p + s := by simp; omega
  have e2 : (xs.take p ++ vs ++ zs.drop s).take (p + s) = xs.take p ++ vs := by rw [← hl2]; exact List.take_left
  have hl3 : (xs.take p ++ vs ++ xs.drop p).length = xs.length + s := by simp; omega
  unfold spl
  rw [e2, ← hl3]
  exact List.take_left
end Go.Proofs.Ytgmlhpkhecbkoaa
