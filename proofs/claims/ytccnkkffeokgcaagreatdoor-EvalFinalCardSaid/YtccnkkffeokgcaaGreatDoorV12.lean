/-
  The abstract machine's operations, ninth part: append. No condition.
-/
import Derived.Test.YtccnkkffeokgcaaGreatDoorV11
import Derived.Deep.AppendSrc
namespace Go.Proofs.YtccnkkffeokgcaaGreatDoor
namespace AM
open Go.RowKit

theorem growBy_le (n : Nat) : ∀ (r c : Nat), Builtin.growBy n r c ≤ max c (2 * n + 192)
  | 0, c => by simp only [Builtin.growBy]; omega
  | r + 1, c => by
    simp only [Builtin.growBy]
    split
    · omega
    · have := growBy_le n r (c + (c + 768) / 4); omega
theorem nextslicecap_le (n c : Nat) (h : c < n) : Builtin.nextslicecap n c ≤ 2 * n + 512 := by
  unfold Builtin.nextslicecap
  split
  · omega
  · split
    · omega
    · have := growBy_le n 4 c; omega
section
variable {P : Program} {E : Env} {Q : Eqs} {μ : Mp} {H : AH} {w0 : Base} {w : World}
/-- What is appended. -/
def acells (H : AH) (size : Nat) : Value → Option (Nat × List Value)
  | .slice none n _ => bif Nat.beq n 0 then some (0, []) else none
  | .slice (some ⟨k, o, none⟩) n _ => match H.t.get k with
    | some (.cells c _ _ _) => bif Nat.ble (o + n * size) c.length then some (n, (c.drop o).take (n * size)) else none
    | _ => none
  | .string s => bif Nat.beq size 1 then some (s.size, s.data.toList.map fun b => .int .u8 b.toNat) else none
  | _ => none
theorem Rel.row (h : Rel μ H w0 w) {k : Nat} {c : List Value} {e : TypeId} {x rw : Bool} (hk : H.t.get k = some (.cells c e x rw)) {g s : Nat} (hm : μ k = some (g, s)) (o m : Nat) (hl : o + m ≤ c.length) :
    ∃ l' : List Value, LR μ ((c.drop o).take m) l' ∧ l'.length = m ∧ ∀ j u, l'[j]? = some u → w.cell? ⟨g, o + j, none⟩ = some u := by
  obtain ⟨g', s', e1, l1, _⟩ := h.lies k _ hk
  rw [hm] at e1; cases e1
  obtain ⟨ob, ho, C, fr, e', rfl, q1, _, _, q4, hc⟩ := l1 rfl
  have q1' : C.toList.length = s := by rw [Array.length_toList]; exact q1
  refine ⟨(C.toList.drop o).take m, ⟨by simp; omega, fun i v v' h1 h2 => ?_⟩, by simp; omega, fun j u hu => ?_⟩
  · rw [List.getElem?_take] at h1 h2
    split at h1
    · rename_i hi
      rw [if_pos hi] at h2
      rw [List.getElem?_drop] at h1 h2
      obtain ⟨u, hu, hv⟩ := hc _ v h1
      rw [Array.getElem?_toList] at h2
      rw [hu] at h2; cases h2; exact hv
    · cases h1
  · rw [List.getElem?_take] at hu
    split at hu
    · rw [List.getElem?_drop, Array.getElem?_toList] at hu
      simp [World.cell?, ho, hu]
    · cases hu
theorem acells_ok (hE : E.Ok P) (h : Rel μ H w0 w) {size n tx : Nat} {x x' : Value} {l : List Value} {d : TypeDesc} (hu : E.und tx = some d) (hd : (∃ e', d = .slice e') ∨ d = .string) (hds : ∀ s, x = .string s → d = .string) (hdl : ∀ a n c, x = .slice a n c → ∃ e', d = .slice e')
    (hx : VR μ x x') (e : acells H size x = some (n, l)) (h1 : l.all (·.oneCell') = true) :
    l.length = n * size ∧ ∃ l', LR μ l l' ∧ Src P size tx x' n l' w := by
  have hu' := hE.und _ _ hu
  unfold acells at e
  split at e
  · rename_i n' c
    cases hb : Nat.beq n' 0 with
    | false => rw [hb] at e; cases e
    | true =>
      rw [hb] at e; cases e
      have := Nat.eq_of_beq_eq_true hb
      subst this
      cases hx
      obtain ⟨e', rfl⟩ := hdl _ _ _ rfl
      exact ⟨by simp, [], .nil μ, Src.ofNil w hu' c⟩
  · rename_i k o n' c
    obtain ⟨e', rfl⟩ := hdl _ _ _ rfl
    split at e
    · rename_i c' el x rw hk
      cases hb : Nat.ble (o + n' * size) c'.length with
      | false => rw [hb] at e; cases e
      | true =>
        rw [hb, cond_true] at e; cases e
        have hb := Nat.le_of_ble_eq_true hb
        have hl : ((c'.drop o).take (n * size)).length = n * size := by simp; omega
        have key : ∀ g s, μ k = some (g, s) → ∀ cc, ∃ l', LR μ ((c'.drop o).take (n * size)) l' ∧ Src P size tx (.slice (some ⟨g, o, none⟩) n cc) n l' w := by
          intro g s hm cc
          obtain ⟨l', r1, r2, r3⟩ := h.row hk hm o (n * size) hb
          refine ⟨l', r1, Src.ofSlice w hu' _ n cc l' r2 (fun j u hj => by rw [addr_add]; exact r3 j u hj) (fun u hm => ?_)⟩
          obtain ⟨i, hi⟩ := List.mem_iff_getElem?.1 hm
          have hi' : i < ((c'.drop o).take (n * size)).length := by rw [r1.1]; exact (List.getElem?_eq_some_iff.1 hi).1
          have := r1.2 i _ u (List.getElem?_eq_getElem hi') hi
          rw [this.oneCell]
          exact List.all_eq_true.1 h1 _ (List.getElem_mem hi')
        cases hx with
        | sl _ _ _ hm hc => exact ⟨hl, key _ _ hm _⟩
        | slx _ _ _ c2 ez hm a1 a2 a3 a4 a5 => exact ⟨hl, key _ _ hm _⟩
    · cases e
  · rename_i s
    cases hb : Nat.beq size 1 with
    | false => rw [hb] at e; cases e
    | true =>
      rw [hb, cond_true] at e
      simp only [Option.some.injEq, Prod.mk.injEq] at e
      obtain ⟨rfl, rfl⟩ := e
      have := Nat.eq_of_beq_eq_true hb
      subst this
      cases hx
      have hds' := hds s rfl
      subst hds'
      refine ⟨by rw [← byteCells, byteCells_length, Nat.mul_one], byteCells s, ?_, Src.ofString w hu' s⟩
      refine ⟨rfl, fun i v v' h1 h2 => ?_⟩
      have h2' : (s.data.toList.map fun b => Value.int .u8 b.toNat)[i]? = some v' := h2
      rw [h1] at h2'; cases h2'
      rw [List.getElem?_map] at h1
      cases hd : s.data.toList[i]? with
      | none => rw [hd] at h1; cases h1
      | some b => rw [hd] at h1; cases h1; exact .int _ _
  · cases e
/-- A block is handed on under a new number; nobody looks at the elder one any more. -/
theorem Rel.hand (h : Rel μ H w0 w) (hn : H.next + 1 < 2 ^ 40) {k : Nat} {b b' : Blk} (hk : H.t.get k = some b) (hown : b.own = true) {g s : Nat} (hm : μ k = some (g, s)) {o : Obj} (ho : BlkR μ s b' o) (hbo : b'.own = true := by rfl) :
    ∃ ν : Mp, μ.le ν ∧ ν H.next = some (g, s) ∧ Rel ν ((H.put k .dead).alloc b') w0 (World.over w g o) := by
  have hlt := h.get_lt hk
  obtain ⟨g', s', e1, l1, l2⟩ := h.lies k b hk
  rw [hm] at e1; cases e1
  obtain ⟨o0, ho0, _⟩ := l1 (Blk.live_own hown)
  have hg : g < w.heap.size := (Array.getElem?_eq_some_iff.1 ho0).1
  have hg0 := l2 hown
  let ν : Mp := ⟨fun j => if j = H.next then some (g, s) else μ j, H.next + 1, fun k hk => by
    show (if k = H.next then _ else _) = _
    rw [if_neg (by omega)]; exact μ.wf k (by rw [h.num]; omega), fun k hk => by
    show ∃ s', (if k = H.next then _ else _) = _
    rw [if_neg (fun e => μ.glob_lt (μ.wf k (by rw [h.num, e]; exact Nat.le_refl _)) hk)]; exact μ.gl k hk⟩
  have hνd : ∀ k, ν k = if k = H.next then some (g, s) else μ k := fun _ => rfl
  have hle : μ.le ν := ⟨by show μ.N ≤ H.next + 1; rw [h.num]; omega, fun k hk => by
    rw [hνd, if_neg (by rw [h.num] at hk; omega)]⟩
  have hget : ∀ j, ((H.put k .dead).alloc b').t.get j = if j = H.next then some b' else if j = k then some .dead else H.t.get j := fun j => by
    rw [get_alloc (H := H.put k .dead) (by simpa [AH.put] using hn)]
    rw [h.get_put hlt]
    rfl
  refine ⟨ν, hle, by rw [hνd, if_pos rfl], ?_⟩
  refine ⟨h.os, h.tape, h.output, by simpa [World.over] using h.size, fun j hj => ?_, by simpa [AH.alloc, AH.put] using hn, rfl, ?_, ?_, ?_⟩
  · rw [World.over_get _ _ hg, if_neg (fun (e : j = g) => hg0 (by rw [← e]; exact hj))]; exact h.keep j hj
  · intro j c hj
    rw [hget] at hj
    by_cases e : j = H.next
    · rw [if_pos e] at hj; cases hj
      exact ⟨g, s, by rw [hνd, if_pos e], fun _ => ⟨o, by rw [World.over_get _ _ hg, if_pos rfl], ho.mono hle⟩, fun _ => hg0⟩
    · rw [if_neg e] at hj
      by_cases e2 : j = k
      · rw [if_pos e2] at hj; cases hj
        exact ⟨g, s, by rw [hνd, if_neg e, e2]; exact hm, fun hl => by simp [Blk.live] at hl, fun hl => by simp [Blk.own] at hl⟩
      · rw [if_neg e2] at hj
        obtain ⟨g1, s1, m1, k1, k2⟩ := h.lies j c hj
        refine ⟨g1, s1, by rw [hνd, if_neg e]; exact m1, fun hl => ?_, k2⟩
        obtain ⟨o1, ho1, r1⟩ := k1 hl
        have := h.apart k j b c hk hj (fun e' => e2 e'.symm) hown hl g s g1 s1 hm m1
        exact ⟨o1, by rw [World.over_get _ _ hg, if_neg (fun e' => this e'.symm)]; exact ho1, r1.mono hle⟩
  · intro i j b1 c1 hi hj hne ho1 hl1 g1 s1 g2 s2 m1 m2
    rw [hget] at hi hj
    rw [hνd] at m1 m2
    by_cases ei : i = H.next
    · rw [if_pos ei] at hi m1; cases hi; cases m1
      have ej : ¬ j = H.next := fun e => hne (ei.trans e.symm)
      rw [if_neg ej] at hj m2
      by_cases e2 : j = k
      · rw [if_pos e2] at hj; cases hj; simp [Blk.live] at hl1
      · rw [if_neg e2] at hj
        exact h.apart k j b c1 hk hj (fun e' => e2 e'.symm) hown hl1 g s g2 s2 hm m2
    · rw [if_neg ei] at hi m1
      by_cases e2 : i = k
      · rw [if_pos e2] at hi; cases hi; simp [Blk.own] at ho1
      · rw [if_neg e2] at hi
        by_cases ej : j = H.next
        · rw [if_pos ej] at hj m2; cases m2
          exact h.apart i k b1 b hi hk e2 ho1 (Blk.live_own hown) g1 s1 g s m1 hm
        · rw [if_neg ej] at hj m2
          by_cases e3 : j = k
          · rw [if_pos e3] at hj; cases hj; simp [Blk.live] at hl1
          · rw [if_neg e3] at hj
            exact h.apart i j b1 c1 hi hj hne ho1 hl1 g1 s1 g2 s2 m1 m2
  · intro j c hj hl ho g1 s1 m1
    rw [hget] at hj
    rw [hνd] at m1
    by_cases e : j = H.next
    · rw [if_pos e] at hj; cases hj; rw [hbo] at ho; cases ho
    · rw [if_neg e] at hj m1
      by_cases e2 : j = k
      · rw [if_pos e2] at hj; cases hj; simp [Blk.live] at hl
      · rw [if_neg e2] at hj; exact h.ro j c hj hl ho g1 s1 m1
end
end AM
end Go.Proofs.YtccnkkffeokgcaaGreatDoor
