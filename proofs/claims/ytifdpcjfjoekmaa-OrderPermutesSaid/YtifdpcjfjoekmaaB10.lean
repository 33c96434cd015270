/-
  Two rows that grow by one each, in a region that draws its order: the relation that the operations take on. No program in sight.
-/
import Derived.Test.YtifdpcjfjoekmaaB4
import Derived.Test.YtifdpcjfjoekmaaB7
import Derived.Test.YtifdpcjfjoekmaaB8
namespace Go.Proofs.Ytifdpcjfjoekmaa
open Go.RowKit

theorem ownsRow_lt {w : World} {base : Nat} {e : TypeId} {size : Nat} {v : Value} {n : Nat} {xs : List Value} (h : w.ownsRow base e size v n xs) {g : Nat} (hg : v.ownBlock = some g) : base ≤ g ∧ g < w.heap.size := by
  rcases h.2 with ⟨hv, _⟩ | ⟨g', cap, cur, hv, hb, hh, _⟩
  · rw [hv] at hg; cases hg
  · rw [hv] at hg; cases hg
    exact ⟨hb, (Array.getElem?_eq_some_iff.1 hh).1⟩
/-- The rows of both appends, as far as they have grown. -/
structure App (V : World) (k : Nat) (xm xn : List Value) (rF rP v11 v12 : Value) (b8 b9 b18 b19 : Bool) (v96 v97 v106 v107 : Value) (W : World) : Prop where
  below : Below V.heap.size V W
  r8 : b8 = true → b9 = false → ∃ Z, v96 = .slice (some ⟨Z, 0, none⟩) 1 1 ∧ Blk W Z 34 #[rF]
  r9 : b9 = true → W.ownsRow V.heap.size 34 1 v97 (k + 1) (xm ++ [rF])
  o9 : b9 = false → W.ownsRow V.heap.size 34 1 v11 k xm
  r18 : b18 = true → b19 = false → ∃ Z, v106 = .slice (some ⟨Z, 0, none⟩) 1 1 ∧ Blk W Z 34 #[rP] ∧ (b9 = false → v11.ownBlock ≠ some Z)
  r19 : b19 = true → W.ownsRow V.heap.size 34 1 v107 (k + 1) (xn ++ [rP])
  o19 : b19 = false → W.ownsRow V.heap.size 34 1 v12 k xn
  ne : ∀ g, (if b9 then v97 else v11).ownBlock = some g → (if b19 then v107 else v12).ownBlock ≠ some g
section
variable {V W W' : World} {k : Nat} {xm xn : List Value} {rF rP v11 v12 v96 v97 v106 v107 : Value} {b8 b9 b18 b19 : Bool}
theorem App.next (h : App V k xm xn rF rP v11 v12 b8 b9 b18 b19 v96 v97 v106 v107 W) (q : Below W.heap.size W W') : App V k xm xn rF rP v11 v12 b8 b9 b18 b19 v96 v97 v106 v107 W' where
  below := h.below.trans (q.mono h.below.size)
  r8 := fun e1 e2 => by obtain ⟨Z, h1, h2⟩ := h.r8 e1 e2; exact ⟨Z, h1, h2.next' q⟩
  r9 := fun e => ownsRow_kept (h.r9 e) (fun g _ hg => q.block g hg)
  o9 := fun e => ownsRow_kept (h.o9 e) (fun g _ hg => q.block g hg)
  r18 := fun e1 e2 => by obtain ⟨Z, h1, h2, h3⟩ := h.r18 e1 e2; exact ⟨Z, h1, h2.next' q, h3⟩
  r19 := fun e => ownsRow_kept (h.r19 e) (fun g _ hg => q.block g hg)
  o19 := fun e => ownsRow_kept (h.o19 e) (fun g _ hg => q.block g hg)
  ne := h.ne
theorem App.new8 (h : App V k xm xn rF rP v11 v12 false false b18 b19 v96 v97 v106 v107 W) : App V k xm xn rF rP v11 v12 true false b18 b19 (.slice (some ⟨W.heap.size, 0, none⟩) 1 1) v97 v106 v107 (W.alloc (.cells #[rF] 34)) :=
  have n := h.next ((Below.refl _ W).alloc (Nat.le_refl _) (.cells #[rF] 34))
  ⟨n.below, fun _ _ => ⟨_, rfl, Blk.new W 34 _⟩, n.r9, n.o9, n.r18, n.r19, n.o19, n.ne⟩
theorem App.new18 (h : App V k xm xn rF rP v11 v12 b8 b9 false false v96 v97 v106 v107 W) : App V k xm xn rF rP v11 v12 b8 b9 true false v96 v97 (.slice (some ⟨W.heap.size, 0, none⟩) 1 1) v107 (W.alloc (.cells #[rP] 34)) :=
  have n := h.next ((Below.refl _ W).alloc (Nat.le_refl _) (.cells #[rP] 34))
  ⟨n.below, n.r8, n.r9, n.o9, fun _ _ => ⟨_, rfl, Blk.new W 34 _, fun e hg => Nat.lt_irrefl _ (ownsRow_lt (h.o9 e) hg).2⟩, n.r19, n.o19, n.ne⟩
theorem App.grow9 (h : App V k xm xn rF rP v11 v12 true false b18 false v96 v97 v106 v107 W) {v' : Value} (hr : W'.ownsRow V.heap.size 34 1 v' (k + 1) (xm ++ [rF])) (hg : W.grownBy W' v11.ownBlock) (ha : v'.ownBlock = v11.ownBlock ∨ v'.ownBlock = some W.heap.size) :
    App V k xm xn rF rP v11 v12 true true b18 false v96 v' v106 v107 W' where
  below := below_grew h.below hg (fun g e => (ownsRow_lt (h.o9 rfl) e).1)
  r8 := fun _ e => nomatch e
  r9 := fun _ => hr
  o9 := fun e => nomatch e
  r18 := fun e1 e2 => by
    obtain ⟨Z, h1, h2, h3⟩ := h.r18 e1 e2
    exact ⟨Z, h1, h2.kept (hg.block Z h2.lt (fun e => h3 rfl e.symm)), fun e => nomatch e⟩
  r19 := fun e => nomatch e
  o19 := fun e => ownsRow_kept (h.o19 e) (fun g e1 l => hg.block g l (fun e2 => h.ne g e2.symm e1))
  ne := fun g e1 e2 => by
    rcases ha with ha | ha
    · exact h.ne g (ha.symm.trans e1) e2
    · have l := (ownsRow_lt (h.o19 rfl) e2).2
      have e3 : some W.heap.size = some g := ha.symm.trans e1
      cases e3
      exact Nat.lt_irrefl _ l
theorem App.grow19 (h : App V k xm xn rF rP v11 v12 true true true false v96 v97 v106 v107 W) {v' : Value} (hr : W'.ownsRow V.heap.size 34 1 v' (k + 1) (xn ++ [rP])) (hg : W.grownBy W' v12.ownBlock) (ha : v'.ownBlock = v12.ownBlock ∨ v'.ownBlock = some W.heap.size) :
    App V k xm xn rF rP v11 v12 true true true true v96 v97 v106 v' W' where
  below := below_grew h.below hg (fun g e => (ownsRow_lt (h.o19 rfl) e).1)
  r8 := fun _ e => nomatch e
  r9 := fun e => ownsRow_kept (h.r9 e) (fun g e1 l => hg.block g l (fun e2 => h.ne g e1 e2.symm))
  o9 := fun e => nomatch e
  r18 := fun _ e => nomatch e
  r19 := fun _ => hr
  o19 := fun e => nomatch e
  ne := fun g e1 e2 => by
    rcases ha with ha | ha
    · exact h.ne g e1 (ha.symm.trans e2)
    · have l := (ownsRow_lt (h.r9 rfl) e1).2
      have e3 : some W.heap.size = some g := ha.symm.trans e2
      cases e3
      exact Nat.lt_irrefl _ l
end
/-- The rows of a list of places, as cells. -/
def rowsL (rs : List RowD) (d : List Nat) : List Value := d.map fun i => .slice (rs.getD i default).A (rs.getD i default).n (rs.getD i default).c
/-- Both rows after k rounds. -/
structure MN (V : World) (rs : List RowD) (P F : List Nat) (k : Nat) (v11 v12 : Value) (W : World) : Prop where
  below : Below V.heap.size V W
  m : W.ownsRow V.heap.size 34 1 v11 k (rowsL rs (F.take k))
  n : W.ownsRow V.heap.size 34 1 v12 k (rowsL rs (P.take k))
  ne : ∀ g, v11.ownBlock = some g → v12.ownBlock ≠ some g
theorem MN.start (V : World) (rs : List RowD) (P F : List Nat) : MN V rs P F 0 (.slice none 0 0) (.slice none 0 0) V := ⟨Below.refl _ _, World.ownsRow_nil _ _ _ _, World.ownsRow_nil _ _ _ _, fun g e => nomatch e⟩
theorem MN.app {V W W' : World} {rs : List RowD} {P F : List Nat} {k : Nat} {v11 v12 : Value} (h : MN V rs P F k v11 v12 W) (q : Below W.heap.size W W') (rF rP v96 v97 v106 v107 : Value) : App V k (rowsL rs (F.take k)) (rowsL rs (P.take k)) rF rP v11 v12 false false false false v96 v97 v106 v107 W' :=
  App.next ⟨h.below, (fun e => nomatch e), (fun e => nomatch e), fun _ => h.m, (fun e => nomatch e), (fun e => nomatch e), fun _ => h.n, h.ne⟩ q
theorem rowsL_step {rs : List RowD} {d : List Nat} {k : Nat} (h : k < d.length) : rowsL rs (d.take (k + 1)) = rowsL rs (d.take k) ++ [.slice (rs.getD (D d k) default).A (rs.getD (D d k) default).n (rs.getD (D d k) default).c] := by
  unfold rowsL
  rw [List.take_succ_eq_append_getElem h, D_at h, List.map_append]
  rfl
/-- A row that is owned can be read as rows. -/
theorem rowsR_of {V W : World} {rs : List RowD} {d : List Nat} {n : Nat} {v : Value} {U : World} (h : W.ownsRow V.heap.size 34 1 v n (rowsL rs d)) (hd : ∀ i ∈ d, i < rs.length) (hl : d.length = n) (q : Below W.heap.size W U) {A : Option Addr} (hR : RowsR W A rs) :
    ∃ B c, v = .slice B n c ∧ RowsR U B (d.map fun i => rs.getD i default) := by
  have hin : ∀ r ∈ (d.map fun i => rs.getD i default), r ∈ rs := fun r hr => by
    obtain ⟨i, hi, rfl⟩ := List.mem_map.1 hr
    have := hd i hi
    simp [List.getD, this]
  rcases h.2 with ⟨hv, h0⟩ | ⟨g, cap, cur, hv, _, hh, h1, h2, h3, h4⟩
  · subst h0
    have hd0 : d = [] := List.length_eq_zero_iff.1 hl
    subst hd0
    exact ⟨none, 0, hv, fun e => absurd rfl e, (fun r hr => by cases hr), (fun r hr => by cases hr)⟩
  · refine ⟨some ⟨g, 0, none⟩, cap, hv, fun _ => ⟨g, 0, rfl, ?_, fun i hi j u hj => ?_⟩, fun r hr => (hR.row r (hin r hr)).next q, fun r hr => hR.len r (hin r hr)⟩
    · exact Nat.lt_of_lt_of_le (Array.getElem?_eq_some_iff.1 hh).1 q.size
    · have hi' : i < d.length := by simpa using hi
      have hb : Blk W g 34 cur := hh
      rw [q.cell (p := ⟨g, 0 + i * 1 + j, none⟩) (Array.getElem?_eq_some_iff.1 hh).1, hb.cell]
      cases j with
      | succ j => simp [rowCell] at hj
      | zero =>
        have e1 : (rowsL rs d)[i]? = some u := by
          simp [rowCell] at hj
          subst hj
          simp [rowsL, hi']
        rw [← h4, List.getElem?_take] at e1
        split at e1
        · rw [show (0 + i * 1 + 0 : Nat) = i by omega]
          simpa using e1
        · cases e1
theorem rowAt_map {rs : List RowD} {d : List Nat} {i : Nat} (h : i < d.length) : rowAt (d.map fun i => rs.getD i default) i = rowAt rs (D d i) := by
  unfold rowAt
  rw [D_at h]
  simp [List.getD, h]
end Go.Proofs.Ytifdpcjfjoekmaa
