/-
  Rows of structs: segments of a block that are read and written an element at a time; what a call changes; appends. No condition.
  slices.insertionSortCmpFunc at cells and at what a sheet has: a permutation comes out. Condition: what compares tells a number.
  Package value: Of, Truth, Bad, Text: their contracts. No condition.
-/
import Derived.Test.YtoicnghjjgkebaaGreatDoorM2
import Derived.Deep.MidRow
import Derived.Deep.CutBlock
import Derived.Deep.Cut
import Derived.Deep.DeepCutAuto
import Derived.Deep.CutRange
import Derived.Deep.WholeRow
import Derived.BigCall
import Derived.BigGuard
import Derived.Test.YtoicnghjjgkebaaGreatDoorQ4
set_option linter.unusedSectionVars false
set_option linter.unusedSimpArgs false
set_option linter.unusedVariables false
set_option linter.unnecessarySimpa false
namespace Go.Proofs.YtoicnghjjgkebaaGreatDoor
open Go.RowKit
/-- The world as it was, but for blocks that S does not name, and new ones. -/
structure Chg (S : Nat → Prop) (w w' : World) : Prop where
  os : w'.os = w.os
  tape : w'.tape = w.tape
  output : w'.output = w.output
  size : w.heap.size ≤ w'.heap.size
  block : ∀ k, k < w.heap.size → S k → w'.heap[k]? = w.heap[k]?
section
variable {S T : Nat → Prop} {w w1 w2 : World}
theorem Chg.refl (S : Nat → Prop) (w : World) : Chg S w w := ⟨rfl, rfl, rfl, Nat.le_refl _, fun _ _ _ => rfl⟩
theorem Chg.trans (h : Chg S w w1) (k : Chg T w1 w2) (hS : ∀ j, j < w.heap.size → S j → T j) : Chg S w w2 :=
  ⟨k.os.trans h.os, k.tape.trans h.tape, k.output.trans h.output, Nat.le_trans h.size k.size, fun j hj hs => (k.block j (Nat.lt_of_lt_of_le hj h.size) (hS j hj hs)).trans (h.block j hj hs)⟩
theorem Chg.next (h : Chg S w w1) (k : Below w1.heap.size w1 w2) : Chg S w w2 := ⟨k.os.trans h.os, k.tape.trans h.tape, k.output.trans h.output, Nat.le_trans h.size k.size, fun j hj hs => (k.block j (Nat.lt_of_lt_of_le hj h.size)).trans (h.block j hj hs)⟩
theorem Chg.of (h : Below w.heap.size w w1) : Chg S w w1 := (Chg.refl S w).next h
theorem Chg.alloc (h : Chg S w w1) (o : Obj) : Chg S w (w1.alloc o) := h.next ((Below.refl _ _).alloc (Nat.le_refl _) o)
theorem Chg.drew (h : Chg S w w1) : Chg S w w1.drew := h.next (Below.refl _ _).drew
theorem Chg.set (h : Chg S w w1) {p : Addr} (hp : p.block < w.heap.size → ¬ S p.block) (u : Value) : Chg S w (w1.setCell p u) :=
  ⟨h.os, h.tape, h.output, by simp only [World.setCell, Array.size_modify]; exact h.size, fun j hj hs => (Below.heap_setCell w1 p u j (fun e => hp (e ▸ hj) (e ▸ hs))).trans (h.block j hj hs)⟩
theorem Chg.grew (h : Chg S w w1) {r : Option Nat} (g : w1.grownBy w2 r) (hr : ∀ k, r = some k → k < w.heap.size → ¬ S k) : Chg S w w2 :=
  ⟨g.os.trans h.os, g.tape.trans h.tape, g.output.trans h.output, Nat.le_trans h.size g.size, fun j hj hs => (g.block j (Nat.lt_of_lt_of_le hj h.size) (fun e => hr j e.symm hj hs)).trans (h.block j hj hs)⟩
theorem Chg.below (h : Chg S w w1) {n : Nat} (hn : n ≤ w.heap.size) (hS : ∀ k, k < n → S k) : Below n w w1 := ⟨h.os, h.tape, h.output, h.size, fun k hk => h.block k (Nat.lt_of_lt_of_le hk hn) (hS k hk)⟩
/-- Blocks of cells stay such, of their types. -/
def TyK (w w' : World) : Prop := ∀ (k : Nat) cs e m, w.heap[k]? = some (.cells cs e m) → ∃ cs', w'.heap[k]? = some (.cells cs' e m)
theorem TyK.refl (w : World) : TyK w w := fun _ cs _ _ h => ⟨cs, h⟩
theorem TyK.trans (h : TyK w w1) (k : TyK w1 w2) : TyK w w2 := fun j cs e m hj => by obtain ⟨c1, h1⟩ := h j cs e m hj; exact k j c1 e m h1
theorem TyK.next (h : TyK w w1) (k : Below w1.heap.size w1 w2) : TyK w w2 := h.trans fun j cs e m hj => ⟨cs, (k.block j (Array.getElem?_eq_some_iff.1 hj).1).trans hj⟩
theorem TyK.set (w : World) (p : Addr) (v : Value) : TyK w (w.setCell p v) := fun j cs e m hj => by
  by_cases h : j = p.block
  · subst h
    by_cases hs : p.spot.isSome = true
    · exact ⟨cs, by simp [World.setCell, Array.getElem?_modify, hj, hs]⟩
    · exact ⟨cs.setIfInBounds p.off v, by simp [World.setCell, Array.getElem?_modify, hj, hs]⟩
  · exact ⟨cs, (Below.heap_setCell w p v j h).trans hj⟩
theorem chg_sets {b : Nat} : ∀ (vs : List Value) (o : Nat) (w : World), Chg (fun k => k ≠ b) w (w.setCells b o vs) ∧ TyK w (w.setCells b o vs)
  | [], _, w => ⟨Chg.refl _ w, TyK.refl w⟩
  | v :: vs, o, w => by
    obtain ⟨h1, h2⟩ := chg_sets (b := b) vs (o + 1) (w.setCell ⟨b, o, none⟩ v)
    rw [World.setCells]
    exact ⟨((Chg.refl _ w).set (fun _ h => h rfl) v).trans h1 fun _ _ h => h, (TyK.set w _ v).trans h2⟩
end
/-- Block g's first cells, that may be read and written. -/
structure Seg (w : World) (g : Nat) (cs : List Value) : Prop where
  lies : w.rangeAt g 0 cs
  free : ∀ j, j < cs.length → w.frozen? ⟨g, j, none⟩ = false
def putAt (l : List Value) : Nat → List Value → List Value
  | _, [] => l
  | o, v :: vs => putAt (l.set o v) (o + 1) vs
theorem putAt_eq : ∀ (vs l : List Value) (o : Nat), o + vs.length ≤ l.length → putAt l o vs = l.take o ++ vs ++ l.drop (o + vs.length)
  | [], l, o, _ => by rw [putAt]; simp
  | v :: vs, l, o, h => by
    rw [List.length_cons] at h
    rw [putAt, putAt_eq vs _ _ (by rw [List.length_set]; omega), List.take_succ_eq_append_getElem (by rw [List.length_set]; omega), List.take_set_of_le (Nat.le_refl _), List.drop_set_of_lt (by omega), List.getElem_set_self]
    simp only [List.append_assoc, List.cons_append, List.nil_append, List.length_cons]
    rw [show o + 1 + vs.length = o + (vs.length + 1) by omega]
section
variable {w w' : World} {g : Nat} {cs : List Value}
theorem Seg.lt (h : Seg w g cs) (hl : 0 < cs.length) : g < w.heap.size := World.block_lt_of_cell? w ⟨g, 0 + 0, none⟩ (h.lies 0 _ (List.getElem?_eq_getElem hl))
theorem Seg.kept (h : Seg w g cs) (k : w'.heap[g]? = w.heap[g]?) : Seg w' g cs :=
  ⟨fun j v hj => (World.cell?_of_block (a := ⟨g, 0 + j, none⟩) k).trans (h.lies j v hj), fun j hj => (World.frozen?_of_block (a := ⟨g, j, none⟩) k).trans (h.free j hj)⟩
theorem Seg.below (h : Seg w g cs) (k : Below w.heap.size w w') : Seg w' g cs := by
  rcases Nat.eq_zero_or_pos cs.length with h0 | h0
  · have : cs = [] := List.length_eq_zero_iff.1 h0
    subst this
    exact ⟨fun j v hj => by simp at hj, fun j hj => by simp at hj⟩
  · exact h.kept (k.block _ (h.lt h0))
theorem Seg.of {e : TypeId} (h : Blk w g e cs.toArray) : Seg w g cs := ⟨fun j v hj => by rw [Nat.zero_add, h.cell j]; simpa using hj, fun j _ => h.frozen j⟩
theorem Seg.set (h : Seg w g cs) (o : Nat) (v : Value) : Seg (w.setCell ⟨g, o, none⟩ v) g (cs.set o v) := by
  refine ⟨fun j u hj => ?_, fun j hj => ?_⟩
  · rw [Nat.zero_add]
    rw [List.getElem?_set] at hj
    split at hj
    · rename_i e
      subst e
      split at hj
      · cases hj
        have hc := h.lies o _ (List.getElem?_eq_getElem (by assumption))
        rw [Nat.zero_add] at hc
        exact World.cell?_setCell_same _ _ _ hc
      · cases hj
    · rename_i e
      have := h.lies j u hj
      rw [Nat.zero_add] at this
      rw [World.cell?_setCell_other _ _ _ _ (fun e2 => e (by injection e2))]
      exact this
  · rw [List.length_set] at hj
    have := h.free j hj
    rwa [World.frozen?_setCell]
theorem Seg.sets : ∀ (vs : List Value) (o : Nat) (cs : List Value) (w : World), Seg w g cs → Seg (w.setCells g o vs) g (putAt cs o vs)
  | [], _, _, _, h => h
  | v :: vs, o, cs, w, h => by rw [World.setCells, putAt]; exact Seg.sets vs (o + 1) _ _ (h.set o v)
theorem Seg.there (h : Seg w g cs) {o n : Nat} (hn : o + n ≤ cs.length) : w.there g o n := fun j hj =>
  ⟨by have := h.lies (o + j) _ (List.getElem?_eq_getElem (by omega)); rw [Nat.zero_add] at this; rw [this]; rfl, h.free _ (by omega)⟩
theorem Seg.part (h : Seg w g cs) {a b c : List Value} (e : cs = a ++ b ++ c) : w.rangeAt g a.length b := fun j v hj => by
  have := h.lies (a.length + j) v (by rw [e, List.append_assoc, List.getElem?_append_right (by omega), Nat.add_sub_cancel_left, List.getElem?_append_left (List.getElem?_eq_some_iff.1 hj).1]; exact hj)
  rwa [Nat.zero_add] at this
end
/-- A struct's type, of so many cells. -/
structure RowT (T : TypeId) (k : Nat) : Prop where
  und : ∃ d, Tryz.prog.underlying T = some d ∧ d.isRow = true
  size : (Tryz.prog.info? T).map (·.size) = some k
section
variable {ops : Array Oper} {rest : List Oper} {op : Oper} {a : Act} {w : World} {Q : Exit → Act → World → Prop} {T : TypeId} {k : Nat}
/-- A load of a whole struct. -/
theorem ld_step (hT : RowT T k) (hgd : op.guard = none) (x : Operand) (ho : op.op = .load T x) (b o : Nat) (hx : a.eval x = .pointer (some ⟨b, o, none⟩)) {cs : List Value} (hl : cs.length = k) (hc : w.rangeAt b o cs)
    (h : wpList Tryz.prog ops Q rest (a.put op.dst (.agg cs.toArray)) w) : wpList Tryz.prog ops Q (op :: rest) a w := by
  obtain ⟨d, hd, hr⟩ := hT.und
  exact wpList_load_mid hgd T x ho b o hx cs d hc hd hr (by rw [hl]; exact hT.size) h
theorem setCells_alloc (w : World) (ty : TypeId) : ∀ (vs z pre : List Value), z.length = vs.length → (w.alloc (.cells (pre ++ z).toArray ty)).setCells w.heap.size pre.length vs = w.alloc (.cells (pre ++ vs).toArray ty)
  | [], z, pre, h => by rw [List.length_eq_zero_iff.1 h]; rfl
  | v :: r, [], pre, h => by simp at h
  | v :: r, z0 :: z, pre, h => by
    have ih := setCells_alloc w ty r z (pre ++ [v]) (by simpa using h)
    rw [List.length_append, List.length_singleton, List.append_assoc, List.append_assoc] at ih
    rw [World.setCells, World.setCell_alloc_new, List.setIfInBounds_toArray, List.set_append_right _ _ (Nat.le_refl _), Nat.sub_self, List.set_cons_zero]
    exact ih
/-- A store of a whole struct into a block that was just laid. -/
theorem st_new (hT : RowT T k) (hgd : op.guard = none) (x y : Operand) (ho : op.op = .store T x y) {cs z : List Value} {ty : TypeId} (hx : a.eval x = .pointer (some ⟨w.heap.size, 0, none⟩)) (hy : a.eval y = .agg cs.toArray)
    (hl : cs.length = k) (hz : z.length = k) (h1 : ∀ v ∈ cs, v.oneCell' = true)
    (h : wpList Tryz.prog ops Q rest (a.put op.dst undef) (w.alloc (.cells cs.toArray ty))) : wpList Tryz.prog ops Q (op :: rest) a (w.alloc (.cells z.toArray ty)) := by
  refine wpList_store_mid hgd T x y ho w.heap.size 0 cs.toArray hx hy ((Seg.of (Blk.new w ty z.toArray)).there (by rw [List.size_toArray, hl, Nat.zero_add]; exact Nat.le_of_eq hz.symm)) (by rw [List.size_toArray, hl]; exact hT.size) (all_oneCell_toArray h1) ?_
  have := setCells_alloc w ty cs z [] (by rw [hl, hz])
  rw [List.length_nil, List.nil_append, List.nil_append] at this
  rw [this]
  exact h
/-- A store of a whole struct into a segment. -/
theorem st_seg (hT : RowT T k) (hgd : op.guard = none) (x y : Operand) (ho : op.op = .store T x y) {g o : Nat} {cs vs : List Value} (hx : a.eval x = .pointer (some ⟨g, o, none⟩)) (hy : a.eval y = .agg vs.toArray) (hS : Seg w g cs) (hl : vs.length = k) (hb : o + k ≤ cs.length)
    (h1 : ∀ v ∈ vs, v.oneCell' = true) (h : ∀ w', Hid (Seg w' g (putAt cs o vs)) → Hid (Chg (fun k => k ≠ g) w w') → Hid (TyK w w') → wpList Tryz.prog ops Q rest (a.put op.dst undef) w') : wpList Tryz.prog ops Q (op :: rest) a w := by
  refine wpList_store_mid hgd T x y ho g o vs.toArray hx hy (hS.there (by rw [List.size_toArray, hl]; exact hb)) (by rw [List.size_toArray, hl]; exact hT.size) (all_oneCell_toArray h1) ?_
  exact h _ (Lib.hid (Seg.sets vs o cs w hS)) (Lib.hid (chg_sets vs o w).1) (Lib.hid (chg_sets vs o w).2)
end
def ncs (b : Nat) : Nat → List Value → List (Addr × Value)
  | _, [] => []
  | o, v :: r => (⟨b, o, none⟩, v) :: ncs b (o + 1) r
theorem ncs_all {w : World} {b : Nat} : ∀ {o : Nat} {cs : List Value}, w.rangeAt b o cs → AllCells w (ncs b o cs)
  | _, [], _ => trivial
  | o, v :: r, h => ⟨h 0 v rfl, ncs_all fun j u hj => by
      have := h (j + 1) u (by simpa using hj)
      rwa [show o + (j + 1) = o + 1 + j by omega] at this⟩
theorem ncs_range {w : World} {b : Nat} : ∀ {o : Nat} {cs : List Value}, AllCells w (ncs b o cs) → w.rangeAt b o cs
  | _, [], _ => fun j u hj => by simp at hj
  | o, v :: r, h => fun j u hj => by
    cases j with
    | zero =>
      have e : v = u := by simpa using hj
      subst e; exact h.1
    | succ j =>
      have := ncs_range h.2 j u (by simpa using hj)
      rwa [show o + 1 + j = o + (j + 1) by omega] at this
theorem allc_app {w : World} : ∀ {a b : List (Addr × Value)}, AllCells w a → AllCells w b → AllCells w (a ++ b)
  | [], _, _, h => h
  | _ :: _, _, h, k => ⟨h.1, allc_app h.2 k⟩
theorem allc_l {w : World} : ∀ {a b : List (Addr × Value)}, AllCells w (a ++ b) → AllCells w a
  | [], _, _ => trivial
  | _ :: _, _, h => ⟨h.1, allc_l h.2⟩
theorem allc_r {w : World} : ∀ {a b : List (Addr × Value)}, AllCells w (a ++ b) → AllCells w b
  | [], _, h => h
  | _ :: _, _, h => allc_r h.2

/-! ### rows of elements -/
section
variable {α : Type} {f : α → List Value} {k : Nat}
theorem flat_len (hf : ∀ z, (f z).length = k) (us : List α) : (us.flatMap f).length = us.length * k := by
  induction us with
  | nil => simp
  | cons u us ih => simp only [List.flatMap_cons, List.length_append, hf, ih, List.length_cons, Nat.succ_mul]; omega
theorem seg_el {w : World} {g : Nat} {us : List α} (hf : ∀ z, (f z).length = k) (h : Seg w g (us.flatMap f)) {i : Nat} {u : α} (hi : us[i]? = some u) : w.rangeAt g (i * k) (f u) := by
  obtain ⟨hlt, rfl⟩ := List.getElem?_eq_some_iff.1 hi
  have e : us = us.take i ++ us[i] :: us.drop (i + 1) := by rw [← List.drop_eq_getElem_cons hlt, List.take_append_drop]
  have := h.part (a := (us.take i).flatMap f) (b := f us[i]) (c := (us.drop (i + 1)).flatMap f) (by conv => lhs; rw [e]
                                                                                                    rw [List.flatMap_append, List.flatMap_cons, List.append_assoc])
  rwa [flat_len hf, List.length_take, Nat.min_eq_left (Nat.le_of_lt hlt)] at this
theorem putAt_el (hf : ∀ z, (f z).length = k) : ∀ (us : List α) (i : Nat) (u : α), i < us.length → putAt (us.flatMap f) (i * k) (f u) = (us.set i u).flatMap f := fun us i u h => by
  have hb : i * k + k ≤ us.length * k := by rw [← Nat.succ_mul]; exact Nat.mul_le_mul_right _ h
  rw [putAt_eq _ _ _ (by rw [flat_len hf, hf]; exact hb)]
  have e : us = us.take i ++ us[i] :: us.drop (i + 1) := by rw [← List.drop_eq_getElem_cons h, List.take_append_drop]
  have h1 : ((us.take i).flatMap f).length = i * k := by rw [flat_len hf, List.length_take, Nat.min_eq_left (Nat.le_of_lt h)]
  have e2 : us.set i u = us.take i ++ u :: us.drop (i + 1) := List.set_eq_take_append_cons_drop.trans (if_pos h)
  rw [e2, List.flatMap_append, List.flatMap_cons]
  have e3 : us.flatMap f = (us.take i).flatMap f ++ (f us[i] ++ (us.drop (i + 1)).flatMap f) := by
    conv => lhs; rw [e]
    rw [List.flatMap_append, List.flatMap_cons]
  rw [e3, List.take_left' h1, List.append_assoc]
  congr 2
  rw [hf, show i * k + k = i * k + (f us[i]).length by rw [hf], ← List.append_assoc, List.drop_left' (by rw [List.length_append, h1])]
theorem seg_row {w : World} {base : Nat} {e : TypeId} {g n c : Nat} {xs : List Value} (h : w.ownsRow base e k (.slice (some ⟨g, 0, none⟩) n c) n xs) : Seg w g xs := by
  refine ⟨fun j u hj => ?_, fun j hj => ?_⟩
  · have := h.cells (g := g) rfl j u hj
    rwa [Addr.add_mid] at this
  · rcases h.2 with ⟨hv, _⟩ | ⟨g', cap, cur, hv, _, hg, _⟩
    · cases hv
    · cases hv
      simp [World.frozen?, hg]
end
end Go.Proofs.YtoicnghjjgkebaaGreatDoor
namespace Go.Proofs.YtoicnghjjgkebaaGreatDoor
open Go.RowKit
def Cel.cs (x : Cel) : List Value := [.int .i64 x.1.1, .int .i64 x.1.2, .int .i64 x.2.1, .int .i64 x.2.2]
theorem cell_row : RowT 29 4 := ⟨⟨_, Tryz.underlying29, rfl⟩, by kernel_rfl⟩
/-- A live cell: its place, the cell, its content's cells. -/
structure Lv where
  r : Int
  c : Int
  at_ : Cel
  ct : List Value
  len : ct.length = 29
  one : ∀ v ∈ ct, v.oneCell' = true
def Lv.cs (x : Lv) : List Value := .int .i64 x.r :: .int .i64 x.c :: (x.at_.cs ++ x.ct)
theorem Lv.length (x : Lv) : x.cs.length = 35 := by simp [Lv.cs, Cel.cs, x.len]
theorem Cel.length (x : Cel) : x.cs.length = 4 := rfl
theorem Cel.one (x : Cel) : ∀ v ∈ x.cs, v.oneCell' = true := by
  intro v hv
  simp only [Cel.cs, List.mem_cons, List.not_mem_nil, or_false] at hv
  rcases hv with rfl | rfl | rfl | rfl <;> rfl
theorem Lv.ones (x : Lv) : ∀ v ∈ x.cs, v.oneCell' = true := by
  intro v hv
  simp only [Lv.cs, List.mem_cons, List.mem_append] at hv
  rcases hv with rfl | rfl | hv | hv
  · rfl
  · rfl
  · exact Cel.one _ v hv
  · exact x.one v hv
theorem live_row : RowT 243 35 := ⟨⟨_, Tryz.underlying243, rfl⟩, by kernel_rfl⟩
/-- What compares two tells some number. -/
def CmpK {α : Type} (f : α → List Value) (F : FuncId) : Prop := ∀ (x y : α) (w : World), Calls Tryz.prog F #[.agg (f x).toArray, .agg (f y).toArray] w fun e w' => ∃ k : Int, e = .returned (.int .i64 k) ∧ Below w.heap.size w w'
/-- The segment holds a permutation. -/
def SrtK {α : Type} (f : α → List Value) (g : Nat) (us : List α) (w : World) (w' : World) : Prop := ∃ us' : List α, us'.Perm us ∧ Seg w' g (us'.flatMap f) ∧ Chg (fun k => k ≠ g) w w' ∧ TyK w w'
theorem swap_perm {α : Type} {us : List α} {i : Nat} {x y : α} (h1 : us[i]? = some x) (h2 : us[i + 1]? = some y) : ((us.set (i + 1) x).set i y).Perm us := by
  obtain ⟨l1, rfl⟩ := List.getElem?_eq_some_iff.1 h1
  obtain ⟨l2, rfl⟩ := List.getElem?_eq_some_iff.1 h2
  have e : us = us.take i ++ us[i] :: us[i + 1] :: us.drop (i + 2) := by
    rw [← List.drop_eq_getElem_cons l2, ← List.drop_eq_getElem_cons l1, List.take_append_drop]
  have e2 : (us.set (i + 1) us[i]).set i us[i + 1] = us.take i ++ us[i + 1] :: us[i] :: us.drop (i + 2) := by
    apply List.ext_getElem?
    intro n
    rw [List.getElem?_set, List.getElem?_set]
    rcases Nat.lt_trichotomy n i with hn | hn | hn
    · rw [if_neg (by omega), if_neg (by omega), List.getElem?_append_left (by rw [List.length_take]; omega), List.getElem?_take_of_lt hn]
    · subst hn
      rw [if_pos rfl, if_pos (by simpa using l1), List.getElem?_append_right (by rw [List.length_take]; omega), List.length_take, Nat.min_eq_left (by omega), Nat.sub_self]; rfl
    · rw [if_neg (by omega)]
      by_cases hn2 : n = i + 1
      · subst hn2
        rw [if_pos rfl, if_pos l2, List.getElem?_append_right (by rw [List.length_take]; omega), List.length_take, Nat.min_eq_left (by omega), show i + 1 - i = 1 by omega]; rfl
      · rw [if_neg (by omega), List.getElem?_append_right (by rw [List.length_take]; omega), List.length_take, Nat.min_eq_left (by omega)]
        obtain ⟨m, rfl⟩ : ∃ m, n = i + 2 + m := ⟨n - (i + 2), by omega⟩
        rw [show i + 2 + m - i = m + 1 + 1 by omega, List.getElem?_cons_succ, List.getElem?_cons_succ, List.getElem?_drop]
  rw [e2]
  conv => rhs; rw [e]
  exact (List.Perm.swap _ _ _).append_left _
section
variable {ops : Array Oper} {rest : List Oper} {op : Oper} {a : Act} {w : World} {T : TypeId} {k : Nat}
theorem st_el {Q : Exit → Act → World → Prop} {α : Type} {f : α → List Value} (hT : RowT T k) (hf : ∀ z, (f z).length = k) (hgd : op.guard = none) (x y : Operand) (ho : op.op = .store T x y) {g o i : Nat} {us : List α} {u : α} (hx : a.eval x = .pointer (some ⟨g, o, none⟩)) (hio : o = i * k) (hy : a.eval y = .agg (f u).toArray) (hS : Seg w g (us.flatMap f)) (hi : i < us.length)
    (h1 : ∀ v ∈ f u, v.oneCell' = true) (h : ∀ w', Hid (Seg w' g ((us.set i u).flatMap f)) → Hid (Chg (fun k => k ≠ g) w w') → Hid (TyK w w') → wpList Tryz.prog ops Q rest (a.put op.dst undef) w') : wpList Tryz.prog ops Q (op :: rest) a w := by
  subst hio
  refine st_seg hT hgd x y ho hx hy hS (hf u) (by rw [flat_len hf, ← Nat.succ_mul]; exact Nat.mul_le_mul_right _ hi) h1 (fun w' a1 a2 a3 => h w' (Lib.hid ?_) a2 a3)
  have := a1.out
  rwa [putAt_el hf us i u hi] at this
theorem ld_quietG {C : World → Prop} {Q : Act → Prop} {d : Option Tmp} {ty : TypeId} {ps : String} {af : Array Edge} {gd : Option (Nat × Bool)} (hT : RowT T k) (x : Operand) (hw : Region.wanted (⟨d, .load T x, ty, ps, af, gd⟩ : Oper) (yielded ops a.tmps) = true) (b o : Nat) (hx : a.eval x = .pointer (some ⟨b, o, none⟩)) {cs : List Value} (hl : cs.length = k) (hc : ∀ w, C w → w.rangeAt b o cs)
    (h : wpQuiet Tryz.prog ops C Q (⟨d, .move (.const (.agg cs.toArray)), ty, ps, af, none⟩ :: rest) a) : wpQuiet Tryz.prog ops C Q (⟨d, .load T x, ty, ps, af, gd⟩ :: rest) a := by
  obtain ⟨q, hd, hr⟩ := hT.und
  unfold wpQuiet at h ⊢
  rw [if_pos (by rfl)] at h
  rw [if_pos hw]
  obtain ⟨v, hv, hk⟩ := h
  refine ⟨v, fun w hw => ?_, hk⟩
  have := hv w hw
  unfold Oper.quietAt at this ⊢
  rw [BigFrame.run_move (.const (.agg cs.toArray)) rfl] at this
  unfold execOp
  simp only [hx, Instr.loadAt, Instr.sureAddr, Sem.run_bind, Sem.run_pure, Result.andThen_ok, run_loadVar_mid w b o T cs q (hc w hw) hd hr (by rw [hl]; exact hT.size)]
  exact this
end
set_option maxRecDepth 100000 in
set_option maxHeartbeats 8000000 in
theorem inscell_c (hC : CmpK Cel.cs 254) (us : List Cel) (w : World) (g n cap : Nat) (hS : Seg w g (us.flatMap Cel.cs)) (hn : us.length = n) (hm : n ≤ 100000) :
    Calls Tryz.prog 341 #[.slice (some ⟨g, 0, none⟩) n cap, .int .i64 0, .int .i64 n, .func (.func 254) #[] #[]] w fun e w' => e = .returned (.tuple #[]) ∧ SrtK Cel.cs g us w w' := by
  have HC := Lib.hid hC
  have HS := Lib.hid hS
  have HN := Lib.hid hn
  clear hC hS hn
  go_enter Tryz.func341, Tryz.ntmps341
  go_wp2_with fail
  go_loopw [8] (fun i wr => ∃ x : Nat, i = .int .i64 x ∧ 1 ≤ x ∧ x ≤ n + 1 ∧ Hid (SrtK Cel.cs g us w wr)) (fun i _ => n + 1 - (intOf i).toNat)
  case atStart => exact ⟨1, by go_num, Nat.le_refl _, by omega, Lib.hid ⟨us, .refl _, HS.out, Chg.refl _ _, TyK.refl _⟩⟩
  case round =>
    obtain ⟨x, rfl, hx, hxn, hS⟩ := hrel
    by_cases hlt : x < n
    · have hjn : (x : Int) < (n : Int) := by omega
      go_wp2_with fail
      go_loopw [9] (fun i wr => ∃ j : Nat, i = .int .i64 j ∧ j ≤ x ∧ Hid (SrtK Cel.cs g us w wr)) (fun i _ => (intOf i).toNat)
      case atStart => exact ⟨x, rfl, Nat.le_refl _, hS⟩
      case round =>
        clear hS
        obtain ⟨j, rfl, hj, hS⟩ := hrel
        cases j with
        | zero =>
          have hW : AllCells wr.drew [] := trivial
          go_wp2_with fail
          refine rfree [0, 1, 2, 3, 4, 5, 6, 7, 8, 9, 10, 11, 12, 13] 3 (by kernel_rfl) (fun _ _ _ _ _ h => h) hW ?_
          intro hne hu; try simp only [AllCells] at hu
          simp only [pick, pk]
          repeat (go_big_quiet_step (fail))
          refine wpQuiet_nil ?_; clear hne hu
          refine anyN_oneL 14 (by kernel_rfl) ?_; simp only [pk]
          go_wp2_with fail
          first | refine And.intro (fun _ => hW) ?_ | refine And.intro hW ?_ | skip
          refine rmore [15, 16] 0 (by kernel_rfl) (fun _ _ _ _ _ h => h) hW ?_
          intro hne hu; try simp only [AllCells] at hu
          simp only [pick, pk]
          repeat (go_big_quiet_step (fail))
          refine wpQuiet_nil ?_; clear hne hu
          refine ⟨by kernel_rfl, ?_⟩
          clear hW
          go_wp2_with fail
          go_roundw
          case rel =>
            obtain ⟨us', p1, s1, c1, t1⟩ := hS.out
            exact ⟨x + 1, by go_num, by omega, by omega, Lib.hid ⟨us', p1, s1.kept rfl, c1.drew, t1⟩⟩
          case measure => simp [intOf]; omega
        | succ q =>
          obtain ⟨us1, hp, hS1, hC1, hT1⟩ := hS.out
          have hl1 : us1.length = n := hp.length_eq.trans HN.out
          obtain ⟨u1, hu1⟩ : ∃ u, us1[q + 1]? = some u := ⟨_, List.getElem?_eq_getElem (by omega)⟩
          obtain ⟨u0, hu0⟩ : ∃ u, us1[q]? = some u := ⟨_, List.getElem?_eq_getElem (by omega)⟩
          have r1 := seg_el (f := Cel.cs) (k := 4) Cel.length hS1 hu1
          have r0 := seg_el (f := Cel.cs) (k := 4) Cel.length hS1 hu0
          have HR := Lib.hid (And.intro hp (And.intro hS1 (And.intro hC1 hT1)))
          have HU := Lib.hid (And.intro hu1 hu0)
          have HL := Lib.hid hl1
          have HCC := Lib.hid (HC.out u1 u0 wr.drew)
          have C0 : AllCells wr.drew (ncs g ((q + 1) * 4) (Cel.cs u1) ++ ncs g (q * 4) (Cel.cs u0)) := allc_app (ncs_all r1) (ncs_all r0)
          have hl2 : Hid ((Cel.cs u1).length = 4) := Lib.hid (Cel.length u1)
          have hl3 : Hid ((Cel.cs u0).length = 4) := Lib.hid (Cel.length u0)
          clear hp hS1 hC1 hT1 hu1 hu0 hl1 r1 r0 hS
          obtain ⟨e1, he1⟩ : ∃ e, e = Cel.cs u1 := ⟨_, rfl⟩
          obtain ⟨e0, he0⟩ : ∃ e, e = Cel.cs u0 := ⟨_, rfl⟩
          have HE := Lib.hid (And.intro he1 he0)
          rw [← he1] at HCC C0 hl2
          rw [← he0] at HCC C0 hl3
          clear he1 he0
          have k1 : decide ((0 : Int) < (q : Int) + 1) = true := decide_eq_true (by omega)
          have j0 : (0 : Int) ≤ (q : Int) + 1 := by omega
          have j1 : (q : Int) + 1 < (n : Int) := by omega
          have j2 : (0 : Int) ≤ (q : Int) := by omega
          have j3 : (q : Int) < (n : Int) := by omega
          have j4 : ((q : Int) + 1).toNat = q + 1 := by omega
          go_wp2_with fail
          refine rfree [0, 1, 2, 3, 4, 5, 6, 7, 8, 9, 10, 11, 12, 13] 3 (by kernel_rfl) (fun _ _ _ _ _ h => h) C0 ?_
          intro hne hu
          have hr1 := fun w (h : ∃ u : HeldC _, w = u.w) => h.elim fun u e => e ▸ ncs_range (allc_l (hu u))
          have hr0 := fun w (h : ∃ u : HeldC _, w = u.w) => h.elim fun u e => e ▸ ncs_range (allc_r (hu u))
          simp only [pick, pk]
          clear hu
          repeat (first | (refine ld_quietG cell_row _ (by rfl) _ _ rfl hl2.out hr1 ?_; go_big_quiet_step (fail)) | (refine ld_quietG cell_row _ (by rfl) _ _ rfl hl3.out hr0 ?_; go_big_quiet_step (fail)) | go_big_quiet_step (fail))
          refine wpQuiet_nil ?_; clear hne hr1 hr0
          refine anyN_oneL 14 (by kernel_rfl) ?_; simp only [pk]
          go_wp2_with fail
          refine HCC.out.mono ?_
          rintro _ w1 ⟨kc, rfl, b1⟩
          have C1 := AllCells.below C0 b1
          have HS1 := Lib.hid (show ∃ us1 : List Cel, us1.Perm us ∧ Seg w1 g (us1.flatMap Cel.cs) ∧ Chg (fun k => k ≠ g) w w1 ∧ TyK w w1 ∧ us1[q + 1]? = some u1 ∧ us1[q]? = some u0 from
            ⟨us1, HR.out.1, (HR.out.2.1.kept (w' := wr.drew) rfl).below b1, (HR.out.2.2.1.drew).next b1, (HR.out.2.2.2.next (w2 := wr.drew) (Below.refl _ _).drew).next b1, HU.out.1, HU.out.2⟩)
          clear b1 HCC C0 HR HU HL
          go_wp2_with fail
          first | refine And.intro (fun _ => C1) ?_ | refine And.intro C1 ?_ | skip
          refine rmore [15, 16] 0 (by kernel_rfl) (fun _ _ _ _ _ h => h) C1 ?_
          intro hne hu; try simp only [AllCells] at hu
          simp only [pick, pk]
          repeat (go_big_quiet_step (fail))
          refine wpQuiet_nil ?_; clear hne hu
          refine ⟨by kernel_rfl, ?_⟩
          clear C1
          by_cases hkc : kc < 0
          · obtain ⟨us2, hp, hS1, hC1, hT1, hu1, hu0⟩ := HS1.out
            have hl1 : us2.length = n := hp.length_eq.trans HN.out
            have C0 : AllCells w1.drew (ncs g ((q + 1) * 4) e1 ++ ncs g (q * 4) e0) := by
              rw [HE.out.1, HE.out.2]
              exact allc_app (ncs_all (seg_el (f := Cel.cs) (k := 4) Cel.length hS1 hu1)) (ncs_all (seg_el (f := Cel.cs) (k := 4) Cel.length hS1 hu0))
            have lq : q + 1 < us2.length := by omega
            have HQ := Lib.hid lq
            have HP := Lib.hid (And.intro hp (And.intro (hS1.kept (w' := w1.drew) rfl) (And.intro hC1.drew (And.intro (hT1.next (w2 := w1.drew) (Below.refl _ _).drew) (And.intro hu1 hu0)))))
            clear hp hS1 hC1 hT1 hu1 hu0 hl1 lq HS1 k1
            go_wp2_with fail
            have hW : AllCells w1.drew [] := trivial
            refine rfree [0, 1, 2, 3, 4, 5, 6, 7, 8, 10, 11, 12] 6 (by kernel_rfl) (fun _ _ _ _ _ h => h) hW ?_
            intro hne hu; try simp only [AllCells] at hu
            simp only [pick, pk]
            repeat (go_big_quiet_step (fail))
            refine wpQuiet_nil ?_; clear hne hu
            refine anyN_again (ncs g ((q + 1) * 4) e1 ++ ncs g (q * 4) e0) [9, 13] [0, 1, 2, 3, 4, 5, 6, 7, 8, 9, 10, 11, 12, 13] 4 (by kernel_rfl) (by kernel_rfl) (by kernel_rfl) (by kernel_rfl) (by kernel_rfl) (fun _ _ _ _ _ h => h) C0 ?_
            intro hne hu
            have hr1 := fun w (h : ∃ u : HeldC _, w = u.w) => h.elim fun u e => e ▸ ncs_range (allc_l (hu u))
            have hr0 := fun w (h : ∃ u : HeldC _, w = u.w) => h.elim fun u e => e ▸ ncs_range (allc_r (hu u))
            simp only [pick, pk]
            clear hu
            repeat (first | (refine ld_quietG cell_row _ (by rfl) _ _ rfl hl2.out hr1 ?_; go_big_quiet_step (fail)) | (refine ld_quietG cell_row _ (by rfl) _ _ rfl hl3.out hr0 ?_; go_big_quiet_step (fail)) | go_big_quiet_step (fail))
            refine wpQuiet_nil ?_; clear hne hr1 hr0
            refine anyN_restL 14 (by kernel_rfl) (by decide) (by kernel_rfl) ?_
            simp only [pk]
            have HX := Lib.hid HP.out.2.1
            rw [HE.out.1, HE.out.2] at *
            go_wp2_with (first | (refine st_el (f := Cel.cs) (i := q + 1) cell_row Cel.length rfl _ _ rfl rfl (by simp) rfl HX.out HQ.out (Cel.one _) ?_; intro w2 S2 Z2 N2) | (refine st_el (f := Cel.cs) (i := q) cell_row Cel.length rfl _ _ rfl rfl (by simp) rfl S2.out (by rw [List.length_set]; have := HQ.out; omega) (Cel.one _) ?_; intro w3 S3 Z3 N3))
            go_roundw
            case rel =>
              obtain ⟨hp, hS1, hC1, hT1, hu1, hu0⟩ := HP.out
              exact ⟨q, by go_num, by omega, Lib.hid ⟨_, (swap_perm hu0 hu1).trans hp, S3.out, (hC1.trans Z2.out (fun _ _ h => h)).trans Z3.out (fun _ _ h => h), (hT1.trans N2.out).trans N3.out⟩⟩
            case measure => simp [intOf]
          · go_wp2_with fail
            go_roundw
            case rel =>
              obtain ⟨us2, hp, hS1, hC1, hT1, -⟩ := HS1.out
              exact ⟨x + 1, by go_num, by omega, by omega, Lib.hid ⟨us2, hp, hS1, hC1, hT1⟩⟩
            case measure => simp [intOf]; omega
    · go_wp2_with fail
      go_end0
      exact ⟨rfl, hS.out⟩
set_option maxRecDepth 100000 in
set_option maxHeartbeats 8000000 in
theorem inslive_c (hC : CmpK Lv.cs 189) (us : List Lv) (w : World) (g n cap : Nat) (hS : Seg w g (us.flatMap Lv.cs)) (hn : us.length = n) (hm : n ≤ 100000) :
    Calls Tryz.prog 306 #[.slice (some ⟨g, 0, none⟩) n cap, .int .i64 0, .int .i64 n, .func (.func 189) #[] #[]] w fun e w' => e = .returned (.tuple #[]) ∧ SrtK Lv.cs g us w w' := by
  have HC := Lib.hid hC
  have HS := Lib.hid hS
  have HN := Lib.hid hn
  clear hC hS hn
  go_enter Tryz.func306, Tryz.ntmps306
  go_wp2_with fail
  go_loopw [8] (fun i wr => ∃ x : Nat, i = .int .i64 x ∧ 1 ≤ x ∧ x ≤ n + 1 ∧ Hid (SrtK Lv.cs g us w wr)) (fun i _ => n + 1 - (intOf i).toNat)
  case atStart => exact ⟨1, by go_num, Nat.le_refl _, by omega, Lib.hid ⟨us, .refl _, HS.out, Chg.refl _ _, TyK.refl _⟩⟩
  case round =>
    obtain ⟨x, rfl, hx, hxn, hS⟩ := hrel
    by_cases hlt : x < n
    · have hjn : (x : Int) < (n : Int) := by omega
      go_wp2_with fail
      go_loopw [9] (fun i wr => ∃ j : Nat, i = .int .i64 j ∧ j ≤ x ∧ Hid (SrtK Lv.cs g us w wr)) (fun i _ => (intOf i).toNat)
      case atStart => exact ⟨x, rfl, Nat.le_refl _, hS⟩
      case round =>
        clear hS
        obtain ⟨j, rfl, hj, hS⟩ := hrel
        cases j with
        | zero =>
          have hW : AllCells wr.drew [] := trivial
          go_wp2_with fail
          refine rfree [0, 1, 2, 3, 4, 5, 6, 7, 8, 9, 10, 11, 12, 13] 3 (by kernel_rfl) (fun _ _ _ _ _ h => h) hW ?_
          intro hne hu; try simp only [AllCells] at hu
          simp only [pick, pk]
          repeat (go_big_quiet_step (fail))
          refine wpQuiet_nil ?_; clear hne hu
          refine anyN_oneL 14 (by kernel_rfl) ?_; simp only [pk]
          go_wp2_with fail
          first | refine And.intro (fun _ => hW) ?_ | refine And.intro hW ?_ | skip
          refine rmore [15, 16] 0 (by kernel_rfl) (fun _ _ _ _ _ h => h) hW ?_
          intro hne hu; try simp only [AllCells] at hu
          simp only [pick, pk]
          repeat (go_big_quiet_step (fail))
          refine wpQuiet_nil ?_; clear hne hu
          refine ⟨by kernel_rfl, ?_⟩
          clear hW
          go_wp2_with fail
          go_roundw
          case rel =>
            obtain ⟨us', p1, s1, c1, t1⟩ := hS.out
            exact ⟨x + 1, by go_num, by omega, by omega, Lib.hid ⟨us', p1, s1.kept rfl, c1.drew, t1⟩⟩
          case measure => simp [intOf]; omega
        | succ q =>
          obtain ⟨us1, hp, hS1, hC1, hT1⟩ := hS.out
          have hl1 : us1.length = n := hp.length_eq.trans HN.out
          obtain ⟨u1, hu1⟩ : ∃ u, us1[q + 1]? = some u := ⟨_, List.getElem?_eq_getElem (by omega)⟩
          obtain ⟨u0, hu0⟩ : ∃ u, us1[q]? = some u := ⟨_, List.getElem?_eq_getElem (by omega)⟩
          have r1 := seg_el (f := Lv.cs) (k := 35) Lv.length hS1 hu1
          have r0 := seg_el (f := Lv.cs) (k := 35) Lv.length hS1 hu0
          have HR := Lib.hid (And.intro hp (And.intro hS1 (And.intro hC1 hT1)))
          have HU := Lib.hid (And.intro hu1 hu0)
          have HL := Lib.hid hl1
          have HCC := Lib.hid (HC.out u1 u0 wr.drew)
          have C0 : AllCells wr.drew (ncs g ((q + 1) * 35) (Lv.cs u1) ++ ncs g (q * 35) (Lv.cs u0)) := allc_app (ncs_all r1) (ncs_all r0)
          have hl2 : Hid ((Lv.cs u1).length = 35) := Lib.hid (Lv.length u1)
          have hl3 : Hid ((Lv.cs u0).length = 35) := Lib.hid (Lv.length u0)
          clear hp hS1 hC1 hT1 hu1 hu0 hl1 r1 r0 hS
          obtain ⟨e1, he1⟩ : ∃ e, e = Lv.cs u1 := ⟨_, rfl⟩
          obtain ⟨e0, he0⟩ : ∃ e, e = Lv.cs u0 := ⟨_, rfl⟩
          have HE := Lib.hid (And.intro he1 he0)
          rw [← he1] at HCC C0 hl2
          rw [← he0] at HCC C0 hl3
          clear he1 he0
          have k1 : decide ((0 : Int) < (q : Int) + 1) = true := decide_eq_true (by omega)
          have j0 : (0 : Int) ≤ (q : Int) + 1 := by omega
          have j1 : (q : Int) + 1 < (n : Int) := by omega
          have j2 : (0 : Int) ≤ (q : Int) := by omega
          have j3 : (q : Int) < (n : Int) := by omega
          have j4 : ((q : Int) + 1).toNat = q + 1 := by omega
          go_wp2_with fail
          refine rfree [0, 1, 2, 3, 4, 5, 6, 7, 8, 9, 10, 11, 12, 13] 3 (by kernel_rfl) (fun _ _ _ _ _ h => h) C0 ?_
          intro hne hu
          have hr1 := fun w (h : ∃ u : HeldC _, w = u.w) => h.elim fun u e => e ▸ ncs_range (allc_l (hu u))
          have hr0 := fun w (h : ∃ u : HeldC _, w = u.w) => h.elim fun u e => e ▸ ncs_range (allc_r (hu u))
          simp only [pick, pk]
          clear hu
          repeat (first | (refine ld_quietG live_row _ (by rfl) _ _ rfl hl2.out hr1 ?_; go_big_quiet_step (fail)) | (refine ld_quietG live_row _ (by rfl) _ _ rfl hl3.out hr0 ?_; go_big_quiet_step (fail)) | go_big_quiet_step (fail))
          refine wpQuiet_nil ?_; clear hne hr1 hr0
          refine anyN_oneL 14 (by kernel_rfl) ?_; simp only [pk]
          go_wp2_with fail
          refine HCC.out.mono ?_
          rintro _ w1 ⟨kc, rfl, b1⟩
          have C1 := AllCells.below C0 b1
          have HS1 := Lib.hid (show ∃ us1 : List Lv, us1.Perm us ∧ Seg w1 g (us1.flatMap Lv.cs) ∧ Chg (fun k => k ≠ g) w w1 ∧ TyK w w1 ∧ us1[q + 1]? = some u1 ∧ us1[q]? = some u0 from
            ⟨us1, HR.out.1, (HR.out.2.1.kept (w' := wr.drew) rfl).below b1, (HR.out.2.2.1.drew).next b1, (HR.out.2.2.2.next (w2 := wr.drew) (Below.refl _ _).drew).next b1, HU.out.1, HU.out.2⟩)
          clear b1 HCC C0 HR HU HL
          go_wp2_with fail
          first | refine And.intro (fun _ => C1) ?_ | refine And.intro C1 ?_ | skip
          refine rmore [15, 16] 0 (by kernel_rfl) (fun _ _ _ _ _ h => h) C1 ?_
          intro hne hu; try simp only [AllCells] at hu
          simp only [pick, pk]
          repeat (go_big_quiet_step (fail))
          refine wpQuiet_nil ?_; clear hne hu
          refine ⟨by kernel_rfl, ?_⟩
          clear C1
          by_cases hkc : kc < 0
          · obtain ⟨us2, hp, hS1, hC1, hT1, hu1, hu0⟩ := HS1.out
            have hl1 : us2.length = n := hp.length_eq.trans HN.out
            have C0 : AllCells w1.drew (ncs g ((q + 1) * 35) e1 ++ ncs g (q * 35) e0) := by
              rw [HE.out.1, HE.out.2]
              exact allc_app (ncs_all (seg_el (f := Lv.cs) (k := 35) Lv.length hS1 hu1)) (ncs_all (seg_el (f := Lv.cs) (k := 35) Lv.length hS1 hu0))
            have lq : q + 1 < us2.length := by omega
            have HQ := Lib.hid lq
            have HP := Lib.hid (And.intro hp (And.intro (hS1.kept (w' := w1.drew) rfl) (And.intro hC1.drew (And.intro (hT1.next (w2 := w1.drew) (Below.refl _ _).drew) (And.intro hu1 hu0)))))
            clear hp hS1 hC1 hT1 hu1 hu0 hl1 lq HS1 k1
            go_wp2_with fail
            have hW : AllCells w1.drew [] := trivial
            refine rfree [0, 1, 2, 3, 4, 5, 6, 7, 8, 10, 11, 12] 6 (by kernel_rfl) (fun _ _ _ _ _ h => h) hW ?_
            intro hne hu; try simp only [AllCells] at hu
            simp only [pick, pk]
            repeat (go_big_quiet_step (fail))
            refine wpQuiet_nil ?_; clear hne hu
            refine anyN_again (ncs g ((q + 1) * 35) e1 ++ ncs g (q * 35) e0) [9, 13] [0, 1, 2, 3, 4, 5, 6, 7, 8, 9, 10, 11, 12, 13] 4 (by kernel_rfl) (by kernel_rfl) (by kernel_rfl) (by kernel_rfl) (by kernel_rfl) (fun _ _ _ _ _ h => h) C0 ?_
            intro hne hu
            have hr1 := fun w (h : ∃ u : HeldC _, w = u.w) => h.elim fun u e => e ▸ ncs_range (allc_l (hu u))
            have hr0 := fun w (h : ∃ u : HeldC _, w = u.w) => h.elim fun u e => e ▸ ncs_range (allc_r (hu u))
            simp only [pick, pk]
            clear hu
            repeat (first | (refine ld_quietG live_row _ (by rfl) _ _ rfl hl2.out hr1 ?_; go_big_quiet_step (fail)) | (refine ld_quietG live_row _ (by rfl) _ _ rfl hl3.out hr0 ?_; go_big_quiet_step (fail)) | go_big_quiet_step (fail))
            refine wpQuiet_nil ?_; clear hne hr1 hr0
            refine anyN_restL 14 (by kernel_rfl) (by decide) (by kernel_rfl) ?_
            simp only [pk]
            have HX := Lib.hid HP.out.2.1
            rw [HE.out.1, HE.out.2] at *
            go_wp2_with (first | (refine st_el (f := Lv.cs) (i := q + 1) live_row Lv.length rfl _ _ rfl rfl (by simp) rfl HX.out HQ.out (Lv.ones _) ?_; intro w2 S2 Z2 N2) | (refine st_el (f := Lv.cs) (i := q) live_row Lv.length rfl _ _ rfl rfl (by simp) rfl S2.out (by rw [List.length_set]; have := HQ.out; omega) (Lv.ones _) ?_; intro w3 S3 Z3 N3))
            go_roundw
            case rel =>
              obtain ⟨hp, hS1, hC1, hT1, hu1, hu0⟩ := HP.out
              exact ⟨q, by go_num, by omega, Lib.hid ⟨_, (swap_perm hu0 hu1).trans hp, S3.out, (hC1.trans Z2.out (fun _ _ h => h)).trans Z3.out (fun _ _ h => h), (hT1.trans N2.out).trans N3.out⟩⟩
            case measure => simp [intOf]
          · go_wp2_with fail
            go_roundw
            case rel =>
              obtain ⟨us2, hp, hS1, hC1, hT1, -⟩ := HS1.out
              exact ⟨x + 1, by go_num, by omega, by omega, Lib.hid ⟨us2, hp, hS1, hC1, hT1⟩⟩
            case measure => simp [intOf]; omega
    · go_wp2_with fail
      go_end0
      exact ⟨rfl, hS.out⟩
end Go.Proofs.YtoicnghjjgkebaaGreatDoor
namespace Go.Proofs.YtoicnghjjgkebaaGreatDoor
open Go.RowKit
set_option maxRecDepth 100000 in
set_option maxHeartbeats 4000000 in
theorem vof_c (m e : Int) (w : World) : Calls Tryz.prog 113 #[.agg #[.int .i64 m, .int .i64 e]] w fun x w' => x = .returned (.agg #[.int .i64 1, .int .i64 m, .int .i64 e, .string ⟨#[]⟩, .bool false, .int .i64 0]) ∧ Below w.heap.size w w' := by
  go_enter Tryz.func113, Tryz.ntmps113
  go_wp2_with fail
  exact bodyPost_ret (v := .agg #[.int .i64 1, .int .i64 m, .int .i64 e, .string ⟨#[]⟩, .bool false, .int .i64 0]) (by simp [results, Tryz.f113, go_sem]) rfl ⟨rfl, ((Below.refl _ w).alloc (Nat.le_refl _) _).alloc (by simp) _⟩
set_option maxRecDepth 100000 in
set_option maxHeartbeats 4000000 in
theorem vtruth_c (b : Bool) (w : World) : Calls Tryz.prog 115 #[.bool b] w fun x w' => x = .returned (.agg #[.int .i64 3, .int .i64 0, .int .i64 0, .string ⟨#[]⟩, .bool b, .int .i64 0]) ∧ Below w.heap.size w w' := by
  go_enter Tryz.func115, Tryz.ntmps115
  go_wp2_with fail
  exact bodyPost_ret (v := .agg #[.int .i64 3, .int .i64 0, .int .i64 0, .string ⟨#[]⟩, .bool b, .int .i64 0]) (by simp [results, Tryz.f115, go_sem]) rfl ⟨rfl, (Below.refl _ w).alloc (Nat.le_refl _) _⟩
set_option maxRecDepth 100000 in
set_option maxHeartbeats 4000000 in
theorem vbad_c (f : Int) (w : World) : Calls Tryz.prog 87 #[.int .i64 f] w fun x w' => x = .returned (.agg (badV f).cs.toArray) ∧ Below w.heap.size w w' := by
  by_cases h1 : f < 1
  · have e : badV f = ⟨4, 0, 0, ⟨#[]⟩, false, 9⟩ := by unfold badV; rw [if_neg (by omega)]
    rw [e]
    clear e
    go_enter Tryz.func87, Tryz.ntmps87
    go_wp2_with fail
    exact bodyPost_ret (v := .agg #[.int .i64 4, .int .i64 0, .int .i64 0, .string ⟨#[]⟩, .bool false, .int .i64 9]) (by simp [results, Tryz.f87, go_sem]) rfl ⟨rfl, (Below.refl _ w).alloc (Nat.le_refl _) _⟩
  · by_cases h2 : 9 < f
    · have e : badV f = ⟨4, 0, 0, ⟨#[]⟩, false, 9⟩ := by unfold badV; rw [if_neg (by omega)]
      rw [e]
      clear e
      go_enter Tryz.func87, Tryz.ntmps87
      go_wp2_with fail
      exact bodyPost_ret (v := .agg #[.int .i64 4, .int .i64 0, .int .i64 0, .string ⟨#[]⟩, .bool false, .int .i64 9]) (by simp [results, Tryz.f87, go_sem]) rfl ⟨rfl, (Below.refl _ w).alloc (Nat.le_refl _) _⟩
    · have e : badV f = ⟨4, 0, 0, ⟨#[]⟩, false, f⟩ := by unfold badV; rw [if_pos (by omega)]
      rw [e]
      clear e
      go_enter Tryz.func87, Tryz.ntmps87
      go_wp2_with fail
      exact bodyPost_ret (v := .agg #[.int .i64 4, .int .i64 0, .int .i64 0, .string ⟨#[]⟩, .bool false, .int .i64 f]) (by simp [results, Tryz.f87, go_sem]) rfl ⟨rfl, (Below.refl _ w).alloc (Nat.le_refl _) _⟩
theorem badV_in {f : Int} (h : 1 ≤ f ∧ f ≤ 9) : badV f = ⟨4, 0, 0, ⟨#[]⟩, false, f⟩ := by unfold badV; rw [if_pos h]
theorem vbadn_c (f : Int) (h : 1 ≤ f ∧ f ≤ 9) (w : World) : Calls Tryz.prog 87 #[.int .i64 f] w fun x w' => x = .returned (.agg #[.int .i64 4, .int .i64 0, .int .i64 0, .string ⟨#[]⟩, .bool false, .int .i64 f]) ∧ Below w.heap.size w w' := by
  have := vbad_c f w
  rw [badV_in h] at this
  exact this
def put6 (W : World) (X : Nat) (a b c d e f : Value) : World := (((((W.setCell ⟨X, 0, none⟩ a).setCell ⟨X, 1, none⟩ b).setCell ⟨X, 2, none⟩ c).setCell ⟨X, 3, none⟩ d).setCell ⟨X, 4, none⟩ e).setCell ⟨X, 5, none⟩ f
theorem blk_put6 {W : World} {X : Nat} {ty : TypeId} {u0 u1 u2 u3 u4 u5 : Value} (h : Blk W X ty #[u0, u1, u2, u3, u4, u5]) (a b c d e f : Value) : Blk (put6 W X a b c d e f) X ty #[a, b, c, d, e, f] := by
  have := (((((h.store 0 a).store 1 b).store 2 c).store 3 d).store 4 e).store 5 f
  simp only [List.setIfInBounds_toArray, List.set_cons_succ, List.set_cons_zero] at this
  exact this
theorem below_put6 {n : Nat} {w W : World} {X : Nat} (h : Below n w W) (hX : n ≤ X) (a b c d e f : Value) : Below n w (put6 W X a b c d e f) := (((((h.setCell hX a).setCell hX b).setCell hX c).setCell hX d).setCell hX e).setCell hX f
def textV (t : ByteArray) : Val := if t.size ≤ 255 then ⟨2, 0, 0, t, false, 0⟩ else badV 2
set_option maxRecDepth 100000 in
set_option maxHeartbeats 4000000 in
theorem vtext_c (t : ByteArray) (w : World) : Calls Tryz.prog 114 #[.string t] w fun x w' => x = .returned (.agg (textV t).cs.toArray) ∧ Below w.heap.size w w' := by
  by_cases h1 : t.size ≤ 255
  · have e : textV t = ⟨2, 0, 0, t, false, 0⟩ := if_pos h1
    have hd : decide ((255 : Int) < (t.size : Int)) = false := decide_eq_false (by omega)
    rw [e]
    clear e
    go_enter Tryz.func114, Tryz.ntmps114
    go_wp2_with fail
    exact bodyPost_ret (v := .agg #[.int .i64 2, .int .i64 0, .int .i64 0, .string t, .bool false, .int .i64 0]) (by simp [results, Tryz.f114, go_sem]) rfl ⟨rfl, (Below.refl _ w).alloc (Nat.le_refl _) _⟩
  · have e : textV t = ⟨4, 0, 0, ⟨#[]⟩, false, 2⟩ := (if_neg h1).trans (badV_in (by omega))
    have hd : decide ((255 : Int) < (t.size : Int)) = true := decide_eq_true (by omega)
    rw [e]
    clear e
    have HB := Lib.hid ((Below.refl _ w).alloc (Nat.le_refl _) (.cells #[.int .i64 0, .int .i64 0, .int .i64 0, .string ⟨#[]⟩, .bool false, .int .i64 0] 33))
    have HX := Lib.hid (Blk.new w 33 #[.int .i64 0, .int .i64 0, .int .i64 0, .string ⟨#[]⟩, .bool false, .int .i64 0])
    go_enter Tryz.func114, Tryz.ntmps114
    go_wp2_with fail
    refine (vbadn_c 2 (by omega) _).mono ?_
    rintro x w1 ⟨rfl, B1⟩
    have bX1 := Lib.hid (HX.out.kept (B1.block _ HX.out.lt))
    have HB1 := Lib.hid (HB.out.trans (B1.mono HB.out.size))
    clear B1 HX HB
    have c0 := bX1.out.cell 0
    have c1 := bX1.out.cell 1
    have c2 := bX1.out.cell 2
    have c3 := bX1.out.cell 3
    have c4 := bX1.out.cell 4
    have c5 := bX1.out.cell 5
    have f0 := bX1.out.frozen 0
    have f1 := bX1.out.frozen 1
    have f2 := bX1.out.frozen 2
    have f3 := bX1.out.frozen 3
    have f4 := bX1.out.frozen 4
    have f5 := bX1.out.frozen 5
    have lX := bX1.out.lt
    simp only [List.getElem?_toArray, List.getElem?_cons_zero, List.getElem?_cons_succ] at c0 c1 c2 c3 c4 c5
    go_wp2_with fail
    change bodyPost _ _ _ _ _ (put6 w1 w.heap.size (.int .i64 4) (.int .i64 0) (.int .i64 0) (.string ⟨#[]⟩) (.bool false) (.int .i64 2))
    have bX2 := blk_put6 bX1.out (.int .i64 4) (.int .i64 0) (.int .i64 0) (.string ⟨#[]⟩) (.bool false) (.int .i64 2)
    have HB2 := below_put6 HB1.out (Nat.le_refl _) (.int .i64 4) (.int .i64 0) (.int .i64 0) (.string ⟨#[]⟩) (.bool false) (.int .i64 2)
    generalize put6 w1 w.heap.size (.int .i64 4) (.int .i64 0) (.int .i64 0) (.string ⟨#[]⟩) (.bool false) (.int .i64 2) = W2 at *
    have d0 := bX2.cell 0
    have d1 := bX2.cell 1
    have d2 := bX2.cell 2
    have d3 := bX2.cell 3
    have d4 := bX2.cell 4
    have d5 := bX2.cell 5
    simp only [List.getElem?_toArray, List.getElem?_cons_zero, List.getElem?_cons_succ] at d0 d1 d2 d3 d4 d5
    exact bodyPost_ret (v := .agg #[.int .i64 4, .int .i64 0, .int .i64 0, .string ⟨#[]⟩, .bool false, .int .i64 2]) (by simp [results, Tryz.f114, go_sem, d0, d1, d2, d3, d4, d5]) rfl ⟨rfl, HB2⟩
end Go.Proofs.YtoicnghjjgkebaaGreatDoor
