/-
  The abstract machine: a call that hands back a row of plain cells, and leaves all else as it was, whichever way it goes. No condition.
-/
import Derived.Test.YtccnkkffeokgcaaGreatDoorV26
namespace Go.Proofs.YtccnkkffeokgcaaGreatDoor
namespace AM
open Go.RowKit

def Tri.map {α β : Type} (f : α → β) : Tri α → Tri β
  | .nil => .nil
  | .node none l r => .node none (l.map f) (r.map f)
  | .node (some v) l r => .node (some (f v)) (l.map f) (r.map f)
theorem Tri.get_map {α β : Type} (f : α → β) : ∀ (t : Tri α) (k : Nat), (t.map f).get k = (t.get k).map f
  | .nil, _ => rfl
  | .node v l r, k => by
    have h : (Tri.node v l r).map f = .node (v.map f) (l.map f) (r.map f) := by cases v <;> rfl
    rw [h, Tri.get_node, Tri.get_node]
    split
    · rfl
    · split
      · exact Tri.get_map f l _
      · exact Tri.get_map f r _
def roB : Blk → Blk
  | .cells c e x _ => .cells c e x false
  | .map es n => .rmap es n
  | .rmap es n => .rmap es n
  | _ => .dead
def roH (H : AH) : AH := ⟨H.t.map roB, H.next⟩
theorem roB_own (b : Blk) : (roB b).own = false := by cases b <;> rfl
theorem roB_live {b : Blk} (h : (roB b).live = true) : b.live = true := by cases b <;> simp_all [roB, Blk.live]
theorem roB_ok {μ : Mp} {s : Nat} {b : Blk} {o : Obj} (h : (roB b).live = true) (r : BlkR μ s b o) : BlkR μ s (roB b) o := by
  cases b with
  | cells c e x rw =>
    obtain ⟨C, fr, e', a1, a2, a3, a4, a5, a6⟩ := r
    exact ⟨C, fr, e', a1, a2, (fun h => by cases h), a4, a5, a6⟩
  | map es n => exact r
  | rmap es n => exact r
  | miter m since seen st => cases h
  | siter t p => cases h
  | loop st pend T n ps as bd d => cases h
  | dfr => cases h
  | dead => cases h
section
variable {P : Program} {μ : Mp} {H : AH} {w0 : Base} {w : World}
theorem Rel.ro_copy (h : Rel μ H w0 w) : Rel μ (roH H) ⟨w, fun g => g < w.heap.size, fun g => g < w.heap.size, fun _ h => h, fun _ h => h⟩ w := by
  have get : ∀ k c, (roH H).t.get k = some c → ∃ b, H.t.get k = some b ∧ c = roB b := fun k c e => by
    unfold roH at e
    dsimp only at e
    rw [Tri.get_map] at e
    obtain ⟨b, h1, h2⟩ := Option.map_eq_some_iff.1 e
    exact ⟨b, h1, h2.symm⟩
  refine ⟨rfl, rfl, rfl, Nat.le_refl _, fun _ _ => rfl, h.small, h.num, fun k c hk => ?_, fun k j c d hk _ _ ho => ?_, fun k c hk hl _ g s e => ?_⟩
  · obtain ⟨b, h1, rfl⟩ := get k c hk
    obtain ⟨g, s, h2, h3, _⟩ := h.lies k b h1
    exact ⟨g, s, h2, fun hl => let ⟨o, h4, h5⟩ := h3 (roB_live hl); ⟨o, h4, roB_ok hl h5⟩, fun ho => by rw [roB_own] at ho; cases ho⟩
  · obtain ⟨b, h1, rfl⟩ := get k c hk
    rw [roB_own] at ho; cases ho
  · obtain ⟨b, h1, rfl⟩ := get k c hk
    exact h.low h1 (roB_live hl) e
def rowOf (p : Value × AH) : Option (Nat × Nat × List Value × Nat × Bool) := match p.1 with
  | .slice (some ⟨k, 0, none⟩) n c => match p.2.t.get k with
    | some (.cells cs el x true) => bif cs.all isScalar then some (n, c, cs, el, x) else none
    | _ => none
  | _ => none
def sameRow (r : Nat × Nat × List Value × Nat × Bool) (p : Value × AH) : Bool := match rowOf p with
  | some (n, c, cs, el, x) => Nat.beq n r.1 && Nat.beq c r.2.1 && veq.veqs (veq 2) cs r.2.2.1 && Nat.beq el r.2.2.2.1 && (x == r.2.2.2.2)
  | none => false
theorem sameRow_ok {r : Nat × Nat × List Value × Nat × Bool} {p : Value × AH} (h : sameRow r p = true) : rowOf p = some r := by
  unfold sameRow at h
  split at h
  · rename_i n c cs el x hr
    simp only [Bool.and_eq_true] at h
    rw [hr, Nat.eq_of_beq_eq_true h.1.1.1.1, Nat.eq_of_beq_eq_true h.1.1.1.2, veqs_ok (veq_ok 2) _ _ h.1.1.2, Nat.eq_of_beq_eq_true h.1.2, eq_of_beq h.2]
  · cases h
def ajoin (call : ACall) : ACall := fun f l H => bif Nat.blt (H.next + 1) 1099511627776 then (match call f l (roH H) with
  | some (p :: outs) => match rowOf p with
    | some (n, c, cs, el, x) => bif outs.all (sameRow (n, c, cs, el, x)) then some [(.slice (some ⟨H.next, 0, none⟩) n c, H.alloc (.cells cs el x true))] else none
    | none => none
  | _ => none) else none
theorem ajoin_ok {call : ACall} (hC : CallOk P call) : CallOk P (ajoin call) := by
  intro w0 f l H outs' μ args w e h hl
  unfold ajoin at e
  cases hb : Nat.blt (H.next + 1) 1099511627776 with
  | false => rw [hb] at e; cases e
  | true =>
    rw [hb, cond_true] at e
    have hn : H.next + 1 < 1099511627776 := Nat.le_of_ble_eq_true hb
    split at e
    · rename_i p0 outs hcall
      split at e
      · rename_i n c cs el x hrow
        cases hb2 : outs.all (sameRow (n, c, cs, el, x)) with
        | false => rw [hb2] at e; cases e
        | true =>
          rw [hb2, cond_true] at e
          cases e
          have all : ∀ p ∈ p0 :: outs, rowOf p = some (n, c, cs, el, x) := fun p hp => by
            rcases List.mem_cons.1 hp with rfl | hp
            · exact hrow
            · exact sameRow_ok (List.all_eq_true.1 hb2 p hp)
          refine (hC _ f l (roH H) _ μ args w hcall h.ro_copy hl).mono ?_
          rintro _ w' ⟨p, hp, ν, v', rfl, hle, hrel, hv⟩
          have hr := all p hp
          obtain ⟨pv, pH⟩ := p
          unfold rowOf at hr
          dsimp only at hr hrel hv
          split at hr
          · rename_i k n' c'
            split at hr
            · rename_i cs' el' x' hk
              cases hsc : cs'.all isScalar with
              | false => rw [hsc] at hr; cases hr
              | true =>
                rw [hsc, cond_true] at hr
                cases hr
                obtain ⟨g, s, hg, l1, l2⟩ := hrel.lies k _ hk
                obtain ⟨o, ho, C, fr, e', rfl, b2, b3, b4, b5, b6⟩ := l1 rfl
                have hgn : ¬ g < w.heap.size := l2 rfl
                let ξ : Mp := ⟨fun j => if j = H.next then some (g, s) else μ j, H.next + 1, fun j hj => by
                  show (if j = H.next then _ else _) = _
                  rw [if_neg (by omega)]; exact μ.wf j (by rw [h.num]; omega), fun j hj => by
                  show ∃ s', (if j = H.next then _ else _) = _
                  rw [if_neg (fun e => μ.glob_lt (μ.wf j (by rw [h.num, e]; exact Nat.le_refl _)) hj)]; exact μ.gl j hj⟩
                have hξ : ∀ j, ξ j = if j = H.next then some (g, s) else μ j := fun _ => rfl
                have hle' : μ.le ξ := ⟨by show μ.N ≤ H.next + 1; rw [h.num]; omega, fun j hj => by rw [hξ, if_neg (by rw [h.num] at hj; omega)]⟩
                have hself : ξ H.next = some (g, s) := by rw [hξ, if_pos rfl]
                have hkeep : ∀ j, j < w.heap.size → w'.heap[j]? = w.heap[j]? := fun j hj => hrel.keep j hj
                refine ⟨_, List.mem_singleton.2 rfl, ξ, v', rfl, hle', ⟨?_, ?_, ?_, ?_, fun j hj => ?_, by simpa [AH.alloc] using hn, rfl, fun j b hj => ?_, fun i j b1 c1 hi hj hne hown hlive g1 s1 g2 s2 e1 e2 => ?_, fun j b hj hlv ho2 g1 s1 e1 => ?_⟩, ?_⟩
                · exact hrel.os.trans h.os
                · exact hrel.tape.trans h.tape
                · exact hrel.output.trans h.output
                · exact Nat.le_trans h.size hrel.size
                · rw [hkeep j (Nat.lt_of_lt_of_le (w0.bound j hj) h.size)]; exact h.keep j hj
                · rw [get_alloc (by omega)] at hj
                  by_cases ej : j = H.next
                  · rw [if_pos ej] at hj; cases hj
                    refine ⟨g, s, by rw [hξ, if_pos ej], fun _ => ⟨_, ho, C, fr, e', rfl, b2, b3, b4, b5, fun i v hv2 => ?_⟩, fun _ hB => hgn (Nat.lt_of_lt_of_le (w0.bound g hB) h.size)⟩
                    obtain ⟨u, hu1, hu2⟩ := b6 i v hv2
                    have hvs := List.all_eq_true.1 hsc v (List.mem_of_getElem? hv2)
                    have := hu2.scalar hvs
                    subst this
                    exact ⟨u, hu1, .of_scalar _ hvs⟩
                  · rw [if_neg ej] at hj
                    obtain ⟨g1, s1, e1, k1, k2⟩ := h.lies j b hj
                    refine ⟨g1, s1, by rw [hξ, if_neg ej]; exact e1, fun hlv => ?_, k2⟩
                    obtain ⟨o1, ho1, r1⟩ := k1 hlv
                    exact ⟨o1, by rw [hkeep g1 (h.low hj hlv e1)]; exact ho1, r1.mono hle'⟩
                · rw [get_alloc (by omega)] at hi hj
                  rw [hξ] at e1 e2
                  by_cases ei : i = H.next
                  · rw [if_pos ei] at hi e1; cases hi; cases e1
                    rw [if_neg (fun e => hne (ei.trans e.symm))] at hj e2
                    have := h.low hj hlive e2
                    omega
                  · rw [if_neg ei] at hi e1
                    by_cases ej : j = H.next
                    · rw [if_pos ej] at hj e2; cases hj; cases e2
                      have := h.low hi (Blk.live_own hown) e1
                      omega
                    · rw [if_neg ej] at hj e2
                      exact h.apart i j b1 c1 hi hj hne hown hlive g1 s1 g2 s2 e1 e2
                · rw [get_alloc (by omega)] at hj
                  rw [hξ] at e1
                  by_cases ej : j = H.next
                  · rw [if_pos ej] at hj; cases hj; cases ho2
                  · rw [if_neg ej] at hj e1
                    exact h.ro j b hj hlv ho2 g1 s1 e1
                · cases hv with
                  | @sl _ g1 s1 o1 n1 c1 hm1 hc1 =>
                    rw [hg] at hm1; cases hm1
                    exact .sl 0 _ _ hself hc1
                  | @slx _ g1 s1 o1 n1 c1 c2 e1 hm1 q1 q2 q3 q4 q5 =>
                    rw [hg] at hm1; cases hm1
                    exact .slx 0 _ _ _ _ hself q1 q2 q3 q4 q5
            · cases hr
          · cases hr
      · cases e
    · cases e
end
end AM
end Go.Proofs.YtccnkkffeokgcaaGreatDoor
