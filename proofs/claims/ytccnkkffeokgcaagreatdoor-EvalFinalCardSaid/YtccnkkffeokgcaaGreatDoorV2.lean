/-
  The abstract machine's memory, and what it stands for. No condition.
-/
import Derived.Test.YtccnkkffeokgcaaGreatDoorV1
import Derived.Below
namespace Go.Proofs.YtccnkkffeokgcaaGreatDoor
namespace AM
open Go.RowKit

/-- A block: cells (are they all that lie there? may they be written?), a map's entries (key, value, stamp), an iterator over a string, or one that nobody may look at any more. -/
inductive Blk where
  | cells (c : List Value) (elem : TypeId) (exact rw : Bool)
  | map (es : List (Value × Value × Nat)) (clock : Nat)
  | rmap (es : List (Value × Value × Nat)) (clock : Nat)
  | miter (m : Option Nat) (since : Nat) (seen : List Nat) (stepped : Nat)
  | siter (s : ByteArray) (pos : Nat)
  | loop (st : LoopState) (pend : Option Code) (T : Tri Value) (n : Nat) (ps : Array Tmp) (assign body : Code) (d : Nat)
  | dfr
  | dead
def Blk.own : Blk → Bool
  | .cells _ _ _ rw => rw
  | .dead | .rmap _ _ => false
  | _ => true
def Blk.live : Blk → Bool
  | .dead => false
  | _ => true
theorem Blk.live_own {b : Blk} (h : b.own = true) : b.live = true := by cases b <;> simp_all [Blk.own, Blk.live]
/-- The memory. -/
structure AH where
  t : Tri Blk
  next : Nat
def AH.alloc (H : AH) (b : Blk) : AH := ⟨H.t.set 40 H.next b, H.next + 1⟩
def AH.put (H : AH) (k : Nat) (b : Blk) : AH := ⟨H.t.set 40 k b, H.next⟩

def BlkR (μ : Mp) (s : Nat) : Blk → Obj → Prop
  | .cells c e x rw, o => ∃ C fr e', o = .cells C e' fr ∧ C.size = s ∧ (rw = true → e' = e ∧ (fr = (0, 0) ∨ s ≤ fr.1)) ∧ (x = true → s = c.length) ∧ c.length ≤ s ∧
      ∀ (i : Nat) (v : Value), c[i]? = some v → ∃ v', C[i]? = some v' ∧ VR μ v v'
  | .map es n, o => ∃ E, o = .map E n ∧ E.size = es.length ∧ ∀ (i : Nat) (e : Value × Value × Nat) (e' : MapEntry), es[i]? = some e → E[i]? = some e' → VR μ e.1 e'.key ∧ VR μ e.2.1 e'.val ∧ e'.born = e.2.2
  | .rmap es n, o => ∃ E, o = .map E n ∧ E.size = es.length ∧ ∀ (i : Nat) (e : Value × Value × Nat) (e' : MapEntry), es[i]? = some e → E[i]? = some e' → VR μ e.1 e'.key ∧ VR μ e.2.1 e'.val ∧ e'.born = e.2.2
  | .miter none since seen st, o => o = .mapIter none since seen.toArray st
  | .miter (some m) since seen st, o => ∃ g z, μ m = some (g, z) ∧ o = .mapIter (some g) since seen.toArray st
  | .siter t p, o => o = .stringIter t p
  | .loop st pend T n ps as bd d, o => ∃ fn tmps d', o = .loop { state := st, pending := pend, fn := fn, tmps := tmps, params := ps, assign := as, body := bd, defers := d' } ∧ tmps.size = n ∧
      (∀ (t : Nat) (v : Value), T.get t = some v → ∃ v', tmps[t]? = some v' ∧ VR μ v v') ∧ ∃ z, μ d = some (d', z)
  | .dfr, o => o = .deferred (some [])
  | .dead, _ => True
theorem BlkR.monoS {μ ν : Mp} (h : μ.sub ν) {s : Nat} {b : Blk} {o : Obj} (r : BlkR μ s b o) : BlkR ν s b o := by
  cases b with
  | cells c e x rw =>
    obtain ⟨C, fr, e', a1, a2, a3, a4, a5, a6⟩ := r
    exact ⟨C, fr, e', a1, a2, a3, a4, a5, fun i v hv => let ⟨v', k1, k2⟩ := a6 i v hv; ⟨v', k1, k2.monoS h⟩⟩
  | map es n =>
    obtain ⟨E, a1, a2, a3⟩ := r
    exact ⟨E, a1, a2, fun i e e' h1 h2 => let ⟨k1, k2, k3⟩ := a3 i e e' h1 h2; ⟨k1.monoS h, k2.monoS h, k3⟩⟩
  | rmap es n =>
    obtain ⟨E, a1, a2, a3⟩ := r
    exact ⟨E, a1, a2, fun i e e' h1 h2 => let ⟨k1, k2, k3⟩ := a3 i e e' h1 h2; ⟨k1.monoS h, k2.monoS h, k3⟩⟩
  | miter m since seen st =>
    cases m with
    | none => exact r
    | some m =>
      obtain ⟨g, z, a1, a2⟩ := r
      exact ⟨g, z, h _ _ a1, a2⟩
  | siter t p => exact r
  | loop st pend T n ps as bd d =>
    obtain ⟨fn, tmps, d', a1, a2, a3, z, a4⟩ := r
    exact ⟨fn, tmps, d', a1, a2, fun t v hv => let ⟨v', k1, k2⟩ := a3 t v hv; ⟨v', k1, k2.monoS h⟩, z, h _ _ a4⟩
  | dfr => exact r
  | dead => trivial

theorem BlkR.mono {μ ν : Mp} (h : μ.le ν) {s : Nat} {b : Blk} {o : Obj} (r : BlkR μ s b o) : BlkR ν s b o := r.monoS h.sub
/-- A world, and blocks of it that stay as they are. -/
structure Base where
  w : World
  B : Nat → Prop
  L : Nat → Prop
  bound : ∀ g, B g → g < w.heap.size
  lbound : ∀ g, L g → g < w.heap.size
structure Rel (μ : Mp) (H : AH) (w0 : Base) (w : World) : Prop where
  os : w.os = w0.w.os
  tape : w.tape = w0.w.tape
  output : w.output = w0.w.output
  size : w0.w.heap.size ≤ w.heap.size
  keep : ∀ g, w0.B g → w.heap[g]? = w0.w.heap[g]?
  small : H.next < 2 ^ 40
  num : μ.N = H.next
  lies : ∀ k b, H.t.get k = some b → ∃ g s, μ k = some (g, s) ∧ (b.live = true → ∃ o, w.heap[g]? = some o ∧ BlkR μ s b o) ∧ (b.own = true → ¬ w0.B g)
  apart : ∀ k j b c, H.t.get k = some b → H.t.get j = some c → k ≠ j → b.own = true → c.live = true → ∀ g s g' s', μ k = some (g, s) → μ j = some (g', s') → g ≠ g'
  ro : ∀ k b, H.t.get k = some b → b.live = true → b.own = false → ∀ g s, μ k = some (g, s) → w0.L g

theorem Rel.room {μ : Mp} {H : AH} {w0 : Base} {w : World} (h : Rel μ H w0 w) (k : Nat) (l : Nat × Nat) (e : μ k = some l) : k < H.next := by
  rw [← h.num]
  rcases Nat.lt_or_ge k μ.N with hk | hk
  · exact hk
  · rw [μ.wf k hk] at e; cases e
theorem Rel.get_lt {μ : Mp} {H : AH} {w0 : Base} {w : World} (h : Rel μ H w0 w) {k : Nat} {b : Blk} (hk : H.t.get k = some b) : k < H.next := by
  obtain ⟨g, s, e, _⟩ := h.lies k b hk
  exact h.room k _ e
theorem Rel.get_put {μ : Mp} {H : AH} {w0 : Base} {w : World} (h : Rel μ H w0 w) {k : Nat} (hk : k < H.next) (b : Blk) (j : Nat) : (H.put k b).t.get j = if j = k then some b else H.t.get j :=
  Tri.get_set 40 H.t k j b (by have := h.small; omega)
theorem get_alloc {H : AH} (hn : H.next + 1 < 2 ^ 40) (b : Blk) (j : Nat) : (H.alloc b).t.get j = if j = H.next then some b else H.t.get j :=
  Tri.get_set 40 H.t H.next j b hn

/-- A new block. -/
theorem Rel.alloc {μ : Mp} {H : AH} {w0 : Base} {w : World} (h : Rel μ H w0 w) (hn : H.next + 1 < 2 ^ 40) {b : Blk} {o : Obj} {s : Nat} (hb : BlkR μ s b o) (hbo : b.own = true := by rfl) :
    ∃ ν : Mp, μ.le ν ∧ ν H.next = some (w.heap.size, s) ∧ Rel ν (H.alloc b) w0 (w.alloc o) := by
  let ν : Mp := ⟨fun k => if k = H.next then some (w.heap.size, s) else μ k, H.next + 1, fun k hk => by
    show (if k = H.next then _ else _) = _
    rw [if_neg (by omega)]; exact μ.wf k (by rw [h.num]; omega), fun k hk => by
    show ∃ s', (if k = H.next then _ else _) = _
    rw [if_neg (fun e => μ.glob_lt (μ.wf k (by rw [h.num, e]; exact Nat.le_refl _)) hk)]; exact μ.gl k hk⟩
  have hνd : ∀ k, ν k = if k = H.next then some (w.heap.size, s) else μ k := fun _ => rfl
  have hle : μ.le ν := ⟨by show μ.N ≤ H.next + 1; rw [h.num]; omega, fun k hk => by
    rw [hνd, if_neg (by rw [h.num] at hk; omega)]⟩
  have hlow : ∀ k b, H.t.get k = some b → b.live = true → ∀ g s, μ k = some (g, s) → g < w.heap.size := by
    intro k b hk hl g s e
    obtain ⟨g', s', e', l1, _⟩ := h.lies k b hk
    rw [e] at e'; cases e'
    obtain ⟨o', ho, _⟩ := l1 hl
    exact (Array.getElem?_eq_some_iff.1 ho).1
  refine ⟨ν, hle, by rw [hνd, if_pos rfl], ?_⟩
  refine ⟨h.os, h.tape, h.output, Nat.le_trans h.size (by simp), fun g hg => ?_, by simpa [AH.alloc] using hn, rfl, ?_, ?_, ?_⟩
  · rw [Below.heap_alloc _ _ _ (Nat.lt_of_lt_of_le (w0.bound g hg) h.size)]; exact h.keep g hg
  · intro k c hk
    rw [get_alloc hn] at hk
    by_cases e : k = H.next
    · rw [if_pos e] at hk
      cases hk
      refine ⟨w.heap.size, s, by rw [hνd, if_pos e], fun _ => ⟨o, Array.getElem?_push_size, hb.mono hle⟩, fun _ hB => by have := w0.bound _ hB; have := h.size; omega⟩
    · rw [if_neg e] at hk
      obtain ⟨g, s', e1, l1, l2⟩ := h.lies k c hk
      refine ⟨g, s', by rw [hνd, if_neg e]; exact e1, fun hl => ?_, l2⟩
      obtain ⟨o', ho, hr⟩ := l1 hl
      have hlt := hlow k c hk hl g s' e1
      refine ⟨o', ?_, hr.mono hle⟩
      rw [Below.heap_alloc _ _ _ hlt]; exact ho
  · intro k j b1 c1 hk hj hne hown hlive g s1 g' s1' ek ej
    rw [get_alloc hn] at hk hj
    rw [hνd] at ek ej
    by_cases e : k = H.next
    · rw [if_pos e] at hk ek
      rw [if_neg (by omega)] at hj ej
      cases ek
      have := hlow j c1 hj hlive g' s1' ej
      omega
    · rw [if_neg e] at hk ek
      by_cases e2 : j = H.next
      · rw [if_pos e2] at hj ej
        cases ej
        have := hlow k b1 hk (Blk.live_own hown) g s1 ek
        omega
      · rw [if_neg e2] at hj ej
        exact h.apart k j b1 c1 hk hj hne hown hlive g s1 g' s1' ek ej
  · intro k c hk hl ho g s1 ek
    rw [get_alloc hn] at hk
    rw [hνd] at ek
    by_cases e : k = H.next
    · rw [if_pos e] at hk; cases hk; rw [hbo] at ho; cases ho
    · rw [if_neg e] at hk ek; exact h.ro k c hk hl ho g s1 ek

/-- What lies in a cell. -/
theorem Rel.cell {μ : Mp} {H : AH} {w0 : Base} {w : World} (h : Rel μ H w0 w) {k : Nat} {c : List Value} {e : TypeId} {x rw : Bool} (hk : H.t.get k = some (.cells c e x rw)) {g s : Nat} (hm : μ k = some (g, s))
    {i : Nat} {v : Value} (hv : c[i]? = some v) : ∃ v', w.cell? ⟨g, i, none⟩ = some v' ∧ VR μ v v' := by
  obtain ⟨g', s', e1, l1, _⟩ := h.lies k _ hk
  rw [hm] at e1; cases e1
  obtain ⟨o, ho, C, fr, e', rfl, _, _, _, _, hc⟩ := l1 rfl
  obtain ⟨v', h1, h2⟩ := hc i v hv
  exact ⟨v', by simp [World.cell?, ho, h1], h2⟩
/-- A block's object is written anew. -/
def World.over (w : World) (g : Nat) (o : Obj) : World := { w with heap := w.heap.setIfInBounds g o }
theorem World.over_get (w : World) {g : Nat} (o : Obj) (hg : g < w.heap.size) (j : Nat) : (World.over w g o).heap[j]? = if j = g then some o else w.heap[j]? := by
  unfold World.over
  dsimp only
  rw [Array.getElem?_setIfInBounds]
  by_cases e : g = j
  · subst e; simp [hg]
  · rw [if_neg e, if_neg (fun h => e h.symm)]
theorem Rel.over {μ : Mp} {H : AH} {w0 : Base} {w : World} (h : Rel μ H w0 w) {k : Nat} {b b' : Blk} (hk : H.t.get k = some b) (hown : b.own = true) (hown' : b'.own = true) {g s : Nat} (hm : μ k = some (g, s)) {o : Obj} (ho : BlkR μ s b' o) :
    Rel μ (H.put k b') w0 (World.over w g o) := by
  have hlt := h.get_lt hk
  obtain ⟨g', s', e1, l1, l2⟩ := h.lies k b hk
  rw [hm] at e1; cases e1
  obtain ⟨o0, ho0, _⟩ := l1 (Blk.live_own hown)
  have hg : g < w.heap.size := (Array.getElem?_eq_some_iff.1 ho0).1
  have hg0 := l2 hown
  refine ⟨h.os, h.tape, h.output, by simpa [World.over] using h.size, fun j hj => ?_, h.small, h.num, ?_, ?_, ?_⟩
  · rw [World.over_get _ _ hg, if_neg (fun (e : j = g) => hg0 (by rw [← e]; exact hj))]; exact h.keep j hj
  · intro j c hj
    rw [h.get_put hlt] at hj
    by_cases e : j = k
    · rw [if_pos e] at hj; cases hj
      subst e
      exact ⟨g, s, hm, fun _ => ⟨o, by rw [World.over_get _ _ hg, if_pos rfl], ho⟩, fun _ => hg0⟩
    · rw [if_neg e] at hj
      obtain ⟨g1, s1, m1, k1, k2⟩ := h.lies j c hj
      refine ⟨g1, s1, m1, fun hl => ?_, k2⟩
      obtain ⟨o1, ho1, r1⟩ := k1 hl
      have := h.apart k j b c hk hj (fun e' => e e'.symm) hown hl g s g1 s1 hm m1
      exact ⟨o1, by rw [World.over_get _ _ hg, if_neg (fun e' => this e'.symm)]; exact ho1, r1⟩
  · intro i j b1 c1 hi hj hne ho1 hl1 g1 s1 g2 s2 m1 m2
    rw [h.get_put hlt] at hi hj
    by_cases e : i = k
    · rw [if_pos e] at hi; cases hi
      subst e
      rw [if_neg (fun e' => hne e'.symm)] at hj
      exact h.apart i j b c1 hk hj hne hown hl1 g1 s1 g2 s2 m1 m2
    · rw [if_neg e] at hi
      by_cases e2 : j = k
      · subst e2
        exact h.apart i j b1 b hi hk hne ho1 (Blk.live_own hown) g1 s1 g2 s2 m1 m2
      · rw [if_neg e2] at hj
        exact h.apart i j b1 c1 hi hj hne ho1 hl1 g1 s1 g2 s2 m1 m2
  · intro j c hj hl ho g1 s1 m1
    rw [h.get_put hlt] at hj
    by_cases e : j = k
    · rw [if_pos e] at hj; cases hj; rw [hown'] at ho; cases ho
    · rw [if_neg e] at hj; exact h.ro j c hj hl ho g1 s1 m1
/-- Nobody looks at a block any more. -/
theorem Rel.kill {μ : Mp} {H : AH} {w0 : Base} {w : World} (h : Rel μ H w0 w) {k : Nat} {b : Blk} (hk : H.t.get k = some b) : Rel μ (H.put k .dead) w0 w := by
  have hlt := h.get_lt hk
  refine ⟨h.os, h.tape, h.output, h.size, h.keep, h.small, h.num, ?_, ?_, ?_⟩
  · intro j c hj
    rw [h.get_put hlt] at hj
    by_cases e : j = k
    · rw [if_pos e] at hj; cases hj
      subst e
      obtain ⟨g, s, m, _⟩ := h.lies j b hk
      exact ⟨g, s, m, fun hl => by simp [Blk.live] at hl, fun hl => by simp [Blk.own] at hl⟩
    · rw [if_neg e] at hj; exact h.lies j c hj
  · intro i j b1 c1 hi hj hne ho1 hl1
    rw [h.get_put hlt] at hi hj
    by_cases e : i = k
    · rw [if_pos e] at hi; cases hi; simp [Blk.own] at ho1
    · rw [if_neg e] at hi
      by_cases e2 : j = k
      · rw [if_pos e2] at hj; cases hj; simp [Blk.live] at hl1
      · rw [if_neg e2] at hj; exact h.apart i j b1 c1 hi hj hne ho1 hl1
  · intro j c hj hl ho
    rw [h.get_put hlt] at hj
    by_cases e : j = k
    · rw [if_pos e] at hj; cases hj; simp [Blk.live] at hl
    · rw [if_neg e] at hj; exact h.ro j c hj hl ho
/-- A block of one's own that is changed in whichever way; nobody looks at it any more. -/
theorem Rel.bury {μ : Mp} {H : AH} {w0 : Base} {w : World} (h : Rel μ H w0 w) {k : Nat} {b : Blk} (hk : H.t.get k = some b) (hown : b.own = true) {g s : Nat} (hm : μ k = some (g, s)) (o : Obj) :
    Rel μ (H.put k .dead) w0 (World.over w g o) := by
  have hlt := h.get_lt hk
  obtain ⟨g', s', e1, l1, l2⟩ := h.lies k b hk
  rw [hm] at e1; cases e1
  obtain ⟨o0, ho0, _⟩ := l1 (Blk.live_own hown)
  have hg : g < w.heap.size := (Array.getElem?_eq_some_iff.1 ho0).1
  have hg0 := l2 hown
  refine ⟨h.os, h.tape, h.output, by simpa [World.over] using h.size, fun j hj => ?_, h.small, h.num, ?_, ?_, ?_⟩
  · rw [World.over_get _ _ hg, if_neg (fun (e : j = g) => hg0 (by rw [← e]; exact hj))]; exact h.keep j hj
  · intro j c hj
    rw [h.get_put hlt] at hj
    by_cases e : j = k
    · rw [if_pos e] at hj; cases hj
      subst e
      exact ⟨g, s, hm, fun hl => by simp [Blk.live] at hl, fun hl => by simp [Blk.own] at hl⟩
    · rw [if_neg e] at hj
      obtain ⟨g1, s1, m1, k1, k2⟩ := h.lies j c hj
      refine ⟨g1, s1, m1, fun hl => ?_, k2⟩
      obtain ⟨o1, ho1, r1⟩ := k1 hl
      have := h.apart k j b c hk hj (fun e' => e e'.symm) hown hl g s g1 s1 hm m1
      exact ⟨o1, by rw [World.over_get _ _ hg, if_neg (fun e' => this e'.symm)]; exact ho1, r1⟩
  · intro i j b1 c1 hi hj hne ho1 hl1
    rw [h.get_put hlt] at hi hj
    by_cases e : i = k
    · rw [if_pos e] at hi; cases hi; simp [Blk.own] at ho1
    · rw [if_neg e] at hi
      by_cases e2 : j = k
      · rw [if_pos e2] at hj; cases hj; simp [Blk.live] at hl1
      · rw [if_neg e2] at hj; exact h.apart i j b1 c1 hi hj hne ho1 hl1
  · intro j c hj hl ho
    rw [h.get_put hlt] at hj
    by_cases e : j = k
    · rw [if_pos e] at hj; cases hj; simp [Blk.live] at hl
    · rw [if_neg e] at hj; exact h.ro j c hj hl ho
theorem setCell_over (w : World) {g : Nat} {C : Array Value} {e : TypeId} {fr : Nat × Nat} (hg : w.heap[g]? = some (.cells C e fr)) (i : Nat) (v : Value) :
    w.setCell ⟨g, i, none⟩ v = World.over w g (.cells (C.setIfInBounds i v) e fr) := by
  unfold World.setCell World.over
  congr 1
  apply Array.ext_getElem?
  intro j
  rw [Array.getElem?_modify, Array.getElem?_setIfInBounds]
  have hlt : g < w.heap.size := (Array.getElem?_eq_some_iff.1 hg).1
  by_cases ej : g = j
  · subst ej
    have hg' : w.heap[g] = .cells C e fr := by rw [Array.getElem?_eq_getElem hlt] at hg; exact Option.some.inj hg
    simp [hlt, hg']
  · simp [ej]
/-- A cell is written. -/
theorem Rel.store {μ : Mp} {H : AH} {w0 : Base} {w : World} (h : Rel μ H w0 w) {k : Nat} {c : List Value} {e : TypeId} {x : Bool} (hk : H.t.get k = some (.cells c e x true)) {g s : Nat} (hm : μ k = some (g, s))
    {i : Nat} (hi : i < c.length) {v v' : Value} (hv : VR μ v v') :
    (∃ u, w.cell? ⟨g, i, none⟩ = some u) ∧ w.frozen? ⟨g, i, none⟩ = false ∧ Rel μ (H.put k (.cells (c.set i v) e x true)) w0 (w.setCell ⟨g, i, none⟩ v') := by
  obtain ⟨g', s', e1, l1, _⟩ := h.lies k _ hk
  rw [hm] at e1; cases e1
  obtain ⟨o, ho, C, fr, e', rfl, q1, q2, q3, q4, hc⟩ := l1 rfl
  obtain ⟨he, hfr⟩ := q2 rfl
  rw [he] at ho
  have hiC : i < C.size := by omega
  refine ⟨⟨C[i], by simp [World.cell?, ho, hiC]⟩, by
    obtain ⟨lo, hi'⟩ := fr
    simp only [World.frozen?, ho]
    rcases hfr with e | e
    · cases e; simp
    · rw [Bool.and_eq_false_iff]; left; rw [decide_eq_false_iff_not]; simp only at e; omega, ?_⟩
  rw [setCell_over w ho]
  refine h.over hk rfl rfl hm ⟨C.setIfInBounds i v', fr, e, rfl, by simpa using q1, fun _ => ⟨rfl, hfr⟩, fun hx => by simpa using q3 hx, by simpa using q4, ?_⟩
  intro j u hu
  rw [List.getElem?_set] at hu
  rw [Array.getElem?_setIfInBounds]
  by_cases e : i = j
  · subst e
    simp [hi] at hu
    subst hu
    exact ⟨v', by simp [hiC], hv⟩
  · rw [if_neg e] at hu ⊢
    exact hc j u hu
end AM
end Go.Proofs.YtccnkkffeokgcaaGreatDoor
