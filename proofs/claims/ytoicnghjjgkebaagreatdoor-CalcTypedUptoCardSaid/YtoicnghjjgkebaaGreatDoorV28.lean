/-
  The abstract machine: a call that hands back a row of plain cells, and leaves all else as it was, whichever way it goes. No condition.
  The abstract machine: whole calls, and rounds. No condition.
  The abstract machine: what a closed call does, out of one reckoning. No condition.
-/
import Derived.Test.YtoicnghjjgkebaaGreatDoorV26
set_option linter.unusedSectionVars false
set_option linter.unusedSimpArgs false
set_option linter.unusedVariables false
set_option linter.unnecessarySimpa false
namespace Go.Proofs.YtoicnghjjgkebaaGreatDoor
namespace AM
open Go.RowKit
variable [Toks]

def Tri.map {α β : Type} (f : α → β) : Tri α → Tri β
  | .nil => .nil
  | .node none l r => .node none (l.map f) (r.map f)
  | .node (some v) l r => .node (some (f v)) (l.map f) (r.map f)
theorem Tri.get_map {α β : Type} (f : α → β) : ∀ (t : Tri α) (k : Nat), (t.map f).get k = (t.get k).map f
  | .nil, _ => rfl
  | .node v l r, k => by
    have h : (Tri.node v l r).map f = .node (v.map f) (l.map f) (r.map f) := by cases v <;> rfl
    rw [h, Tri.get_node, Tri.get_node]
    split
    · rfl
    · split
      · exact Tri.get_map f l _
      · exact Tri.get_map f r _
def roB : Blk → Blk
  | .cells c e x _ => .cells c e x false
  | .map es n => .rmap es n
  | .rmap es n => .rmap es n
  | _ => .dead
def roH (H : AH) : AH := ⟨H.t.map roB, H.next⟩
theorem roB_own (b : Blk) : (roB b).own = false := by cases b <;> rfl
theorem roB_live {b : Blk} (h : (roB b).live = true) : b.live = true := by cases b <;> simp_all [roB, Blk.live]
theorem roB_ok {μ : Mp} {s : Nat} {b : Blk} {o : Obj} (h : (roB b).live = true) (r : BlkR μ s b o) : BlkR μ s (roB b) o := by
  cases b with
  | cells c e x rw =>
    obtain ⟨C, fr, e', a1, a2, a3, a4, a5, a6⟩ := r
    exact ⟨C, fr, e', a1, a2, (fun h => by cases h), a4, a5, a6⟩
  | map es n => exact r
  | rmap es n => exact r
  | miter m since seen st => cases h
  | siter t p => cases h
  | loop st pend T n ps as bd d => cases h
  | dfr => cases h
  | dead => cases h
section
variable {P : Program} {μ : Mp} {H : AH} {w0 : Base} {w : World}
theorem Rel.ro_copy (h : Rel μ H w0 w) : Rel μ (roH H) ⟨w, fun g => g < w.heap.size, fun g => g < w.heap.size, fun _ h => h, fun _ h => h⟩ w := by
  have get : ∀ k c, (roH H).t.get k = some c → ∃ b, H.t.get k = some b ∧ c = roB b := fun k c e => by
    unfold roH at e
    dsimp only at e
    rw [Tri.get_map] at e
    obtain ⟨b, h1, h2⟩ := Option.map_eq_some_iff.1 e
    exact ⟨b, h1, h2.symm⟩
  refine ⟨rfl, rfl, rfl, Nat.le_refl _, fun _ _ => rfl, h.small, h.num, fun k c hk => ?_, fun k j c d hk _ _ ho => ?_, fun k c hk hl _ g s e => ?_⟩
  · obtain ⟨b, h1, rfl⟩ := get k c hk
    obtain ⟨g, s, h2, h3, _⟩ := h.lies k b h1
    exact ⟨g, s, h2, fun hl => let ⟨o, h4, h5⟩ := h3 (roB_live hl); ⟨o, h4, roB_ok hl h5⟩, fun ho => by rw [roB_own] at ho; cases ho⟩
  · obtain ⟨b, h1, rfl⟩ := get k c hk
    rw [roB_own] at ho; cases ho
  · obtain ⟨b, h1, rfl⟩ := get k c hk
    exact h.low h1 (roB_live hl) e
def rowOf (p : Value × AH) : Option (Nat × Nat × List Value × Nat × Bool) := match p.1 with
  | .slice (some ⟨k, 0, none⟩) n c => match p.2.t.get k with
    | some (.cells cs el x true) => bif cs.all isScalar then some (n, c, cs, el, x) else none
    | _ => none
  | _ => none
def sameRow (r : Nat × Nat × List Value × Nat × Bool) (p : Value × AH) : Bool := match rowOf p with
  | some (n, c, cs, el, x) => Nat.beq n r.1 && Nat.beq c r.2.1 && veq.veqs (veq 2) cs r.2.2.1 && Nat.beq el r.2.2.2.1 && (x == r.2.2.2.2)
  | none => false
theorem sameRow_ok {r : Nat × Nat × List Value × Nat × Bool} {p : Value × AH} (h : sameRow r p = true) : rowOf p = some r := by
  unfold sameRow at h
  split at h
  · rename_i n c cs el x hr
    simp only [Bool.and_eq_true] at h
    rw [hr, Nat.eq_of_beq_eq_true h.1.1.1.1, Nat.eq_of_beq_eq_true h.1.1.1.2, veqs_ok (veq_ok 2) _ _ h.1.1.2, Nat.eq_of_beq_eq_true h.1.2, eq_of_beq h.2]
  · cases h
def ajoin (call : ACall) : ACall := fun f l H => bif Nat.blt (H.next + 1) 1099511627776 then (match call f l (roH H) with
  | some (p :: outs) => match rowOf p with
    | some (n, c, cs, el, x) => bif outs.all (sameRow (n, c, cs, el, x)) then some [(.slice (some ⟨H.next, 0, none⟩) n c, H.alloc (.cells cs el x true))] else none
    | none => none
  | _ => none) else none
theorem ajoin_ok {call : ACall} (hC : CallOk P call) : CallOk P (ajoin call) := by
  intro w0 f l H outs' μ args w e h hl
  unfold ajoin at e
  cases hb : Nat.blt (H.next + 1) 1099511627776 with
  | false => rw [hb] at e; cases e
  | true =>
    rw [hb, cond_true] at e
    have hn : H.next + 1 < 1099511627776 := Nat.le_of_ble_eq_true hb
    split at e
    · rename_i p0 outs hcall
      split at e
      · rename_i n c cs el x hrow
        cases hb2 : outs.all (sameRow (n, c, cs, el, x)) with
        | false => rw [hb2] at e; cases e
        | true =>
          rw [hb2, cond_true] at e
          cases e
          have all : ∀ p ∈ p0 :: outs, rowOf p = some (n, c, cs, el, x) := fun p hp => by
            rcases List.mem_cons.1 hp with rfl | hp
            · exact hrow
            · exact sameRow_ok (List.all_eq_true.1 hb2 p hp)
          refine (hC _ f l (roH H) _ μ args w hcall h.ro_copy hl).mono ?_
          rintro _ w' ⟨p, hp, ν, v', rfl, hle, hrel, hv⟩
          have hr := all p hp
          obtain ⟨pv, pH⟩ := p
          unfold rowOf at hr
          dsimp only at hr hrel hv
          split at hr
          · rename_i k n' c'
            split at hr
            · rename_i cs' el' x' hk
              cases hsc : cs'.all isScalar with
              | false => rw [hsc] at hr; cases hr
              | true =>
                rw [hsc, cond_true] at hr
                cases hr
                obtain ⟨g, s, hg, l1, l2⟩ := hrel.lies k _ hk
                obtain ⟨o, ho, C, fr, e', rfl, b2, b3, b4, b5, b6⟩ := l1 rfl
                have hgn : ¬ g < w.heap.size := l2 rfl
                let ξ : Mp := ⟨fun j => if j = H.next then some (g, s) else μ j, H.next + 1, fun j hj => by
                  show (if j = H.next then _ else _) = _
                  rw [if_neg (by omega)]; exact μ.wf j (by rw [h.num]; omega), fun j hj => by
                  show ∃ s', (if j = H.next then _ else _) = _
                  rw [if_neg (fun e => μ.glob_lt (μ.wf j (by rw [h.num, e]; exact Nat.le_refl _)) hj)]; exact μ.gl j hj⟩
                have hξ : ∀ j, ξ j = if j = H.next then some (g, s) else μ j := fun _ => rfl
                have hle' : μ.le ξ := ⟨by show μ.N ≤ H.next + 1; rw [h.num]; omega, fun j hj => by rw [hξ, if_neg (by rw [h.num] at hj; omega)]⟩
                have hself : ξ H.next = some (g, s) := by rw [hξ, if_pos rfl]
                have hkeep : ∀ j, j < w.heap.size → w'.heap[j]? = w.heap[j]? := fun j hj => hrel.keep j hj
                refine ⟨_, List.mem_singleton.2 rfl, ξ, v', rfl, hle', ⟨?_, ?_, ?_, ?_, fun j hj => ?_, by simpa [AH.alloc] using hn, rfl, fun j b hj => ?_, fun i j b1 c1 hi hj hne hown hlive g1 s1 g2 s2 e1 e2 => ?_, fun j b hj hlv ho2 g1 s1 e1 => ?_⟩, ?_⟩
                · exact hrel.os.trans h.os
                · exact hrel.tape.trans h.tape
                · exact hrel.output.trans h.output
                · exact Nat.le_trans h.size hrel.size
                · rw [hkeep j (Nat.lt_of_lt_of_le (w0.bound j hj) h.size)]; exact h.keep j hj
                · rw [get_alloc (by omega)] at hj
                  by_cases ej : j = H.next
                  · rw [if_pos ej] at hj; cases hj
                    refine ⟨g, s, by rw [hξ, if_pos ej], fun _ => ⟨_, ho, C, fr, e', rfl, b2, b3, b4, b5, fun i v hv2 => ?_⟩, fun _ hB => hgn (Nat.lt_of_lt_of_le (w0.bound g hB) h.size)⟩
                    obtain ⟨u, hu1, hu2⟩ := b6 i v hv2
                    have hvs := List.all_eq_true.1 hsc v (List.mem_of_getElem? hv2)
                    have := hu2.scalar hvs
                    subst this
                    exact ⟨u, hu1, .of_scalar _ hvs⟩
                  · rw [if_neg ej] at hj
                    obtain ⟨g1, s1, e1, k1, k2⟩ := h.lies j b hj
                    refine ⟨g1, s1, by rw [hξ, if_neg ej]; exact e1, fun hlv => ?_, k2⟩
                    obtain ⟨o1, ho1, r1⟩ := k1 hlv
                    exact ⟨o1, by rw [hkeep g1 (h.low hj hlv e1)]; exact ho1, r1.mono hle'⟩
                · rw [get_alloc (by omega)] at hi hj
                  rw [hξ] at e1 e2
                  by_cases ei : i = H.next
                  · rw [if_pos ei] at hi e1; cases hi; cases e1
                    rw [if_neg (fun e => hne (ei.trans e.symm))] at hj e2
                    have := h.low hj hlive e2
                    omega
                  · rw [if_neg ei] at hi e1
                    by_cases ej : j = H.next
                    · rw [if_pos ej] at hj e2; cases hj; cases e2
                      have := h.low hi (Blk.live_own hown) e1
                      omega
                    · rw [if_neg ej] at hj e2
                      exact h.apart i j b1 c1 hi hj hne hown hlive g1 s1 g2 s2 e1 e2
                · rw [get_alloc (by omega)] at hj
                  rw [hξ] at e1
                  by_cases ej : j = H.next
                  · rw [if_pos ej] at hj; cases hj; cases ho2
                  · rw [if_neg ej] at hj e1
                    exact h.ro j b hj hlv ho2 g1 s1 e1
                · cases hv with
                  | @sl _ g1 s1 o1 n1 c1 hm1 hc1 =>
                    rw [hg] at hm1; cases hm1
                    exact .sl 0 _ _ hself hc1
                  | @slx _ g1 s1 o1 n1 c1 c2 e1 hm1 q1 q2 q3 q4 q5 =>
                    rw [hg] at hm1; cases hm1
                    exact .slx 0 _ _ _ _ hself q1 q2 q3 q4 q5
            · cases hr
          · cases hr
      · cases e
    · cases e
end
end AM
end Go.Proofs.YtoicnghjjgkebaaGreatDoor
namespace Go.Proofs.YtoicnghjjgkebaaGreatDoor
namespace AM
open Go.RowKit
variable [Toks]

section
variable {P : Program} {E : Env} {Q : Eqs}
def atmps : List Value → Nat → Tri Value → Tri Value
  | [], _, T => T
  | v :: l, i, T => atmps l (i + 1) (T.set 20 i v)
theorem atmps_get : ∀ (l : List Value) (i : Nat) (T : Tri Value) (t : Nat) (v : Value), i + l.length < 1048575 → (atmps l i T).get t = some v → (i ≤ t ∧ l[t - i]? = some v) ∨ (T.get t = some v ∧ (t < i ∨ i + l.length ≤ t))
  | [], i, T, t, v, _, h => .inr ⟨h, by simp; omega⟩
  | x :: l, i, T, t, v, hb, h => by
    rw [List.length_cons] at hb
    rcases atmps_get l (i + 1) _ t v (by omega) h with ⟨h1, h2⟩ | ⟨h1, h2⟩
    · refine .inl ⟨by omega, ?_⟩
      rw [show t - i = (t - (i + 1)) + 1 by omega]; exact h2
    · rw [Tri.get_set 20 T i t x (Nat.lt_of_le_of_lt (show i + 1 ≤ 1048575 by omega) (by decide))] at h1
      by_cases e : t = i
      · rw [if_pos e] at h1; cases h1
        exact .inl ⟨by omega, by rw [e, Nat.sub_self]; rfl⟩
      · rw [if_neg e] at h1
        exact .inr ⟨h1, by rw [List.length_cons]; omega⟩
def akill (H : AH) : List Nat → Option AH
  | [] => some H
  | k :: M => match H.t.get k with
    | some .dfr => akill (H.put k .dead) M
    | _ => none
def aresults (E : Env) (T : Tri Value) (H : AH) : List ResultVar → Option (List Value)
  | [] => some []
  | .tmp t :: rs => match T.get t, aresults E T H rs with
    | some v, some l => some (v :: l)
    | _, _ => none
  | .cell x t :: rs => match T.get x with
    | some p => match aload E H t p, aresults E T H rs with
      | some v, some l => some (v :: l)
      | _, _ => none
    | none => none
theorem aresults_ok {μ : Mp} {b : Base} {w : World} {H : AH} (hE : E.Ok P) (h : Rel μ H b w) {T : Tri Value} {tmps : Array Value} (hT : TR μ T.get tmps) : ∀ (rs : List ResultVar) (l : List Value), aresults E T H rs = some l →
    ∃ l', (rs.mapM (fun
      | .tmp t => pure (tmps.getD t undef)
      | .cell a t => do loadVar t (← asAddr (tmps.getD a undef)) : ResultVar → Sem Value)).run P w = .ok l' w ∧ LR μ l l'
  | [], l, e => by cases e; exact ⟨[], rfl, .nil μ⟩
  | .tmp t :: rs, l, e => by
    simp only [aresults] at e
    split at e
    · rename_i v m hv hm
      cases e
      obtain ⟨l', h1, h2⟩ := aresults_ok hE h hT rs m hm
      obtain ⟨v', h3, h4⟩ := hT t v hv
      refine ⟨v' :: l', ?_, .cons h4 h2⟩
      have hg : tmps.getD t undef = v' := by rw [Array.getD_eq_getD_getElem?, h3]; rfl
      rw [List.mapM_cons]
      simp only [Sem.run_bind, Sem.run_pure, Result.andThen_ok, h1, hg]
    · cases e
  | .cell x t :: rs, l, e => by
    simp only [aresults] at e
    split at e
    · rename_i p hp
      split at e
      · rename_i v m hv hm
        cases e
        obtain ⟨l', h1, h2⟩ := aresults_ok hE h hT rs m hm
        obtain ⟨p', h3, h4⟩ := hT x p hp
        obtain ⟨v', h5, h6⟩ := aload_addr (P := P) hE h h4 hv
        refine ⟨v' :: l', ?_, .cons h6 h2⟩
        have hg : tmps.getD x undef = p' := by rw [Array.getD_eq_getD_getElem?, h3]; rfl
        rw [List.mapM_cons]
        simp only [hg]
        rw [Sem.run_bind, h5]
        simp only [Sem.run_bind, Result.andThen_ok, h1, Sem.run_pure]
      · cases e
    · cases e
def aout (l : List Value) : Value := match l with
  | [v] => v
  | l => .tuple l.toArray
theorem aout_ok {μ : Mp} {b : Base} {w : World} {H : AH} (hE : E.Ok P) (h : Rel μ H b w) {T : Tri Value} {tmps : Array Value} (hT : TR μ T.get tmps) {fn : Func} {l : List Value} (e : aresults E T H fn.results.toList = some l) :
    ∃ v', (results fn tmps).run P w = .ok v' w ∧ VR μ (aout l) v' := by
  obtain ⟨l', h1, h2⟩ := aresults_ok hE h hT _ l e
  unfold results
  rw [Array.mapM_eq_mapM_toList]
  have hm : (List.toArray <$> fn.results.toList.mapM (fun
      | .tmp t => pure (tmps.getD t undef)
      | .cell a t => do loadVar t (← asAddr (tmps.getD a undef)) : ResultVar → Sem Value)).run P w = .ok l'.toArray w := by
    rw [Sem.run_map, h1]; rfl
  rw [Sem.run_bind]
  refine ⟨_, Eq.trans (congrArg (fun r => Result.andThen r (fun (a : Array Value) w' => Sem.run P (pure (if h : a.size = 1 then a[0] else Value.tuple a)) w')) hm) rfl, ?_⟩
  cases l with
  | nil =>
    have := h2.inv_nil
    subst this
    exact .tuple rfl (by simp)
  | cons v l =>
    obtain ⟨v', l2, rfl, hv, h3⟩ := h2.inv
    cases l with
    | nil =>
      have := h3.inv_nil
      subst this
      exact hv
    | cons u l =>
      obtain ⟨u', l4, rfl, hu, h4⟩ := h3.inv
      rw [dif_neg (by simp)]
      have := LR.cons hv (LR.cons hu h4)
      exact .tuple (this.toArray).1 (this.toArray).2
/-- A dead block may be written at will. -/
theorem Rel.wipe {μ : Mp} {H : AH} {b : Base} {w : World} (h : Rel μ H b w) {k : Nat} {c : Blk} (hk : H.t.get k = some c) (hown : c.own = true) {g s : Nat} (hm : μ k = some (g, s)) (o : Obj) : Rel μ (H.put k .dead) b (World.over w g o) := by
  have hd := h.kill hk
  have hlt := h.get_lt hk
  obtain ⟨g', s', e1, l1, l2⟩ := h.lies k c hk
  rw [hm] at e1; cases e1
  obtain ⟨o0, ho0, _⟩ := l1 (Blk.live_own hown)
  have hg : g < w.heap.size := (Array.getElem?_eq_some_iff.1 ho0).1
  refine ⟨h.os, h.tape, h.output, by simpa [World.over] using h.size, fun j hj => ?_, h.small, h.num, ?_, hd.apart, hd.ro⟩
  · rw [World.over_get _ _ hg, if_neg (fun (e : j = g) => l2 hown (by rw [← e]; exact hj))]; exact h.keep j hj
  · intro j d hj
    obtain ⟨g1, s1, m1, k1, k2⟩ := hd.lies j d hj
    refine ⟨g1, s1, m1, fun hl => ?_, k2⟩
    obtain ⟨o1, ho1, r1⟩ := k1 hl
    have hj' := hj
    rw [h.get_put hlt] at hj'
    by_cases e : j = k
    · rw [if_pos e] at hj'; cases hj'; simp [Blk.live] at hl
    · rw [if_neg e] at hj'
      have := h.apart k j c d hk hj' (fun e' => e e'.symm) hown hl g s g1 s1 hm m1
      exact ⟨o1, by rw [World.over_get _ _ hg, if_neg (fun e' => this e'.symm)]; exact ho1, r1⟩
theorem akill_ok {μ : Mp} {b : Base} {fn : Func} {tmps : Array Value} {R : Ending → World → Prop} {r : Option Nat} {mm : Nat} : ∀ (M : List Nat) (D : List Deferred) (H H' : AH) (w : World), akill H M = some H' → Rel μ H b w → MkR μ M D →
    (∀ w', Rel μ H' b w' → LeavesIn (fw r) mm P fn tmps R [] .returning w') → LeavesInM (fw r) mm P fn tmps R D .returning w
  | [], [], H, H', w, e, h, _, hk => by cases e; exact hk w h
  | k :: M, d :: D, H, H', w, e, h, ⟨⟨g, z, h1, h2⟩, h3⟩, hk => by
    simp only [akill] at e
    split at e
    · rename_i hd
      obtain ⟨g', s', e1, l1, _⟩ := h.lies k _ hd
      rw [h1] at e1; cases e1
      obtain ⟨o, ho, rfl⟩ := l1 rfl
      refine ⟨(fun hh => by cases hh), .inl ⟨g, World.over w g (.deferred none), by rw [h2], run_takeDeferred ho, ?_⟩⟩
      exact akill_ok M D _ H' _ e (h.wipe hd rfl h1 _) h3 hk
    · cases e
  | [], _ :: _, _, _, _, _, _, h, _ => h.elim
  | _ :: _, [], _, _, _, _, _, h, _ => h.elim
def afin (E : Env) (fn : Func) : AX × AS → Option Outs
  | (.exit _, _) => none
  | (_, T', H', M) => match akill H' M with
    | some H2 => match aresults E T' H2 fn.results.toList with
      | some l => some [(aout l, H2)]
      | none => none
    | none => none
def acallS (P : Program) (E : Env) (Q : Eqs) (call : ACall) (round : ARound) (loops : Nat) : ACall := fun f args H => match E.fn f with
  | some fn => match fn.body with
    | some c => bif Nat.ble args.length fn.ntmps && Nat.blt fn.ntmps 1048575 then (match acode P E Q call round fn.ntmps loops none c (atmps args 0 .nil) H [] with
      | some outs => abind (afin E fn) outs
      | none => none) else none
    | none => none
  | none => none
theorem acallS_ok (hE : E.Ok P) (hQ : Q.Ok P) (hm : P.follows .mixedOrders = true) {call : ACall} {round : ARound} (hC : CallOk P call) (hR : RoundOk P round) {loops : Nat} : CallOk P (acallS P E Q call round loops) := by
  intro w0 f l H outs μ args w e h hl
  unfold acallS at e
  split at e
  · rename_i fn hfn
    split at e
    · rename_i c hc
      cases hb : (Nat.ble l.length fn.ntmps && Nat.blt fn.ntmps 1048575) with
      | false => rw [hb] at e; cases e
      | true =>
        rw [hb, cond_true] at e
        rw [Bool.and_eq_true] at hb
        have h1 := Nat.le_of_ble_eq_true hb.1
        have h2 : fn.ntmps < 1048575 := Nat.le_of_ble_eq_true hb.2
        have hlen : l.length = args.size := by rw [hl.1]; simp
        obtain ⟨hf, _⟩ := hE.fn _ _ hfn
        refine callsIn_of_wp_marks hf hc trivial ?_
        have hst : St μ H (atmps l 0 .nil) fn.ntmps [] w0 { tmps := args ++ Array.replicate (fn.ntmps - args.size) undef, defers := [] } w := by
          refine ⟨h, fun t u hu => ?_, by simp; omega, rfl⟩
          rcases atmps_get l 0 .nil t u (by omega) hu with ⟨_, h3⟩ | ⟨h3, _⟩
          · rw [Nat.sub_zero] at h3
            have ht : t < l.length := (List.getElem?_eq_some_iff.1 h3).1
            have ht' : t < args.size := by omega
            refine ⟨args[t], ?_, hl.2 t u _ h3 (by simp [ht'])⟩
            show (args ++ _)[t]? = _
            rw [Array.getElem?_append_left ht', Array.getElem?_eq_getElem ht']
          · cases h3
        split at e
        · rename_i ps hcode
          refine acode_ok hE hQ hC hR hm c _ _ _ _ hcode w0 μ [] _ w none 0 _ hst trivial trivial ?_
          rintro ⟨ax, T', H1, M⟩ hp ν D' a' w' hle hs' hM'
          obtain ⟨m1, e1, e2⟩ := abind_mem e _ hp
          have fin : (match akill H1 M with
              | some H2 => match aresults E T' H2 fn.results.toList with
                | some l => some [(aout l, H2)]
                | none => none
              | none => none) = some m1 → LeavesInM (fw none) 0 P fn a'.tmps (Back μ w0 outs) a'.defers .returning w' := by
            intro he
            split at he
            · rename_i H2 hH2
              split at he
              · rename_i l2 hl2
                cases he
                have := akill_ok (P := P) (fn := fn) (tmps := a'.tmps) (R := Back μ w0 outs) (r := none) (mm := 0) M D' H1 H2 w' hH2 hs'.rel hM' (fun w2 hw2 => by
                  obtain ⟨v', h3, h4⟩ := aout_ok (P := P) hE hw2 hs'.tmps hl2
                  exact ⟨v', h3, (aout l2, H2), e2 _ (by simp), ν, v', rfl, hle, hw2, h4⟩)
                rw [hs'.defers]
                exact this
              · cases he
            · cases he
          cases ax with
          | normal => exact fin e1
          | ret => exact fin e1
          | exit id => cases e1
        · cases e
    · cases e
  · cases e
def aparams : List (Tmp × Value) → Tri Value → Tri Value
  | [], T => T
  | (p, v) :: l, T => aparams l (T.set 20 p v)
theorem aparams_ok {μ : Mp} {n : Nat} (hn : n < 1048575) : ∀ (ps : List Tmp) (l l' : List Value) (T : Tri Value) (tmps : Array Value), LR μ l l' → (∀ p ∈ ps, p < n) → tmps.size = n → TR μ T.get tmps →
    TR μ (aparams (ps.zip l) T).get ((ps.zip l').foldl (fun tmps (t, a) => tmps.setIfInBounds t a) tmps) ∧ ((ps.zip l').foldl (fun tmps (t, a) => tmps.setIfInBounds t a) tmps).size = n
  | [], l, l', T, tmps, _, _, hs, hT => by simpa [aparams] using ⟨hT, hs⟩
  | p :: ps, [], l', T, tmps, hl, _, hs, hT => by rw [hl.inv_nil]; simpa [aparams] using ⟨hT, hs⟩
  | p :: ps, v :: l, l', T, tmps, hl, hp, hs, hT => by
    obtain ⟨v', l2, rfl, hv, hl2⟩ := hl.inv
    rw [List.zip_cons_cons, List.zip_cons_cons, aparams, List.foldl_cons]
    have hpn := hp p (by simp)
    refine aparams_ok hn ps l l2 _ _ hl2 (fun q hq => hp q (by simp [hq])) (by simpa using hs) ?_
    intro t u hu
    rw [Tri.get_set 20 T p t v (Nat.lt_of_le_of_lt (Nat.succ_le_of_lt hpn) (Nat.lt_trans hn (by decide)))] at hu
    rw [Array.getElem?_setIfInBounds]
    by_cases e : t = p
    · rw [if_pos e] at hu; cases hu
      subst e
      exact ⟨v', by rw [if_pos rfl, if_pos (by rw [hs]; exact hpn)], hv⟩
    · rw [if_neg e] at hu
      rw [if_neg (fun h => e h.symm)]
      exact hT t u hu
def aroundE (l : Nat) : AX × AS → Option Outs
  | (ax, _, H, _) => match H.t.get l with
    | some (.loop _ _ T n ps as bd d) => match ax with
      | .normal => some [(.bool true, H.put l (.loop .ready none T n ps as bd d))]
      | .ret => some [(.bool false, H.put l (.loop .done (some .ret) T n ps as bd d))]
      | .exit id => some [(.bool false, H.put l (.loop .done (some (.exit id)) T n ps as bd d))]
    | _ => none
def aroundB (P : Program) (E : Env) (Q : Eqs) (call : ACall) (round : ARound) (loops n l : Nat) (bd : Code) : AX × AS → Option Outs
  | (.normal, T1, H1, []) => match H1.t.get l with
    | some (.loop .ready pend' T' n' ps' as' bd' d') => match acode P E Q call round n loops (some l) bd T1 (H1.put l (.loop .busy pend' T' n' ps' as' bd' d')) [] with
      | some outs => abind (aroundE l) outs
      | none => none
    | _ => none
  | _ => none
def aroundS (P : Program) (E : Env) (Q : Eqs) (call : ACall) (round : ARound) (loops : Nat) : ARound := fun l args H => match H.t.get l with
  | some (.loop .ready _ T n ps as bd _) => bif Nat.beq ps.toList.length args.length && ps.toList.all (fun p => Nat.blt p n) && Nat.blt n 1048575 then
      (match acode P E Q call round n loops (some l) as (aparams (ps.toList.zip args) T) H [] with
      | some outs => abind (aroundB P E Q call round loops n l bd) outs
      | none => none) else none
  | _ => none
theorem aroundS_ok (hE : E.Ok P) (hQ : Q.Ok P) (hm : P.follows .mixedOrders = true) {call : ACall} {round : ARound} (hC : CallOk P call) (hR : RoundOk P round) {loops : Nat} : RoundOk P (aroundS P E Q call round loops) := by
  intro w0 k l H outs μ args w g z e h hl hmk
  unfold aroundS at e
  split at e
  · rename_i pend T n ps as bd d hk
    cases hb : (Nat.beq ps.toList.length l.length && ps.toList.all (fun p => Nat.blt p n) && Nat.blt n 1048575) with
    | false => rw [hb] at e; cases e
    | true =>
      rw [hb, cond_true] at e
      simp only [Bool.and_eq_true] at hb
      have b1 := Nat.eq_of_beq_eq_true hb.1.1
      have b2 : ∀ p ∈ ps.toList, p < n := fun p hp => Nat.le_of_ble_eq_true (List.all_eq_true.1 hb.1.2 p hp)
      have b3 : n < 1048575 := Nat.le_of_ble_eq_true hb.2
      obtain ⟨fn, tmps, d', hw, hn, hT, hd'⟩ := h.loopAt hk hmk
      have hsz : args.size = ps.size := by have := hl.1; simp at this b1; omega
      refine ⟨fn, _, as, bd, run_yield hw hsz, ?_⟩
      have hpar := aparams_ok (μ := μ) b3 ps.toList l args.toList T tmps hl b2 hn hT
      have hfold : (ps.zip args).foldl (fun tmps (t, a) => tmps.setIfInBounds t a) tmps = (ps.toList.zip args.toList).foldl (fun tmps (t, a) => tmps.setIfInBounds t a) tmps := by
        rw [← Array.foldl_toList, Array.toList_zip]
      split at e
      · rename_i ps1 hc1
        apply roundIn_of_wpIn trivial
        show as.wpIn (fw (some g)) 0 P _ _ w
        refine acode_ok hE hQ hC hR hm as _ _ _ _ hc1 w0 μ [] _ w (some g) 0 _ ⟨h, by rw [hfold]; exact hpar.1, by rw [hfold]; exact hpar.2, rfl⟩ trivial ⟨z, hmk⟩ ?_
        rintro ⟨ax1, T1, H1, M1⟩ hp1 ν D1 a1 w1 q1 q2 q3
        obtain ⟨m1, e1, e2⟩ := abind_mem e _ hp1
        unfold aroundB at e1
        split at e1
        · rename_i T1' H1' heq
          cases heq
          split at e1
          · rename_i pend' T' n' ps' as' bd' dd hk1
            split at e1
            · rename_i ps3 hc3
              obtain ⟨fn1, tmps1, d1, hw1, hn1, hT1, hd1⟩ := q2.rel.loopAt hk1 (q1.sub _ _ hmk)
              refine ⟨_, run_beginRound hw1 rfl, ?_⟩
              have hrel : Rel ν (H1.put k (.loop .busy pend' T' n' ps' as' bd' dd)) w0 (World.over w1 g (.loop { state := .busy, pending := pend', fn := fn1, tmps := tmps1, params := ps', assign := as', body := bd', defers := d1 })) :=
                q2.rel.over hk1 rfl rfl (q1.sub _ _ hmk) ⟨fn1, tmps1, d1, rfl, hn1, hT1, hd1⟩
              show bd.wpIn (fw (some g)) 0 P _ a1 _
              have hD1 : D1 = [] := by cases D1 with | nil => rfl | cons x y => exact q3.elim
              refine acode_ok hE hQ hC hR hm bd _ _ _ _ hc3 w0 ν D1 _ _ (some g) 0 _ ⟨hrel, q2.tmps, q2.size, q2.defers⟩ (by rw [hD1]; trivial) ⟨z, q1.sub _ _ hmk⟩ ?_
              rintro ⟨ax, T3, H3, M3⟩ hp3 ξ D3 a3 w3 p1 p2 p3
              obtain ⟨m3, e3, e4⟩ := abind_mem e1 _ hp3
              have hm3 := p1.sub _ _ (q1.sub _ _ hmk)
              unfold aroundE at e3
              dsimp only at e3
              split at e3
              · rename_i st5 pend5 T5 n5 ps5 as5 bd5 d5 hk5
                obtain ⟨fn5, tmps5, d6, hw5, hn5, hT5, hd5⟩ := p2.rel.loopAt hk5 hm3
                have fin : ∀ jump st, st = (if jump.isNone then LoopState.ready else .done) → ∃ v' w', (Instr.endRound g jump).run P w3 = .ok v' w' ∧ v' = .bool jump.isNone ∧ Rel ξ (H3.put k (.loop st jump T5 n5 ps5 as5 bd5 d5)) w0 w' := by
                  rintro jump _ rfl
                  refine ⟨_, _, run_endRound jump hw5, rfl, ?_⟩
                  exact p2.rel.over hk5 rfl rfl hm3 ⟨fn5, tmps5, d6, rfl, hn5, hT5, hd5⟩
                split at e3
                · cases e3
                  obtain ⟨v', w', r1, rfl, r3⟩ := fin none .ready rfl
                  exact ⟨_, w', r1, (.bool true, H3.put k (.loop .ready none T5 n5 ps5 as5 bd5 d5)), e2 _ (e4 _ (by simp)), ξ, _, rfl, q1.trans p1, r3, .bool true⟩
                · cases e3
                  obtain ⟨v', w', r1, rfl, r3⟩ := fin (some .ret) .done rfl
                  exact ⟨_, w', r1, (.bool false, H3.put k (.loop .done (some .ret) T5 n5 ps5 as5 bd5 d5)), e2 _ (e4 _ (by simp)), ξ, _, rfl, q1.trans p1, r3, .bool false⟩
                · cases e3
                  rename_i id
                  obtain ⟨v', w', r1, rfl, r3⟩ := fin (some (.exit id)) .done rfl
                  exact ⟨_, w', r1, (.bool false, H3.put k (.loop .done (some (.exit id)) T5 n5 ps5 as5 bd5 d5)), e2 _ (e4 _ (by simp)), ξ, _, rfl, q1.trans p1, r3, .bool false⟩
              · cases e3
            · cases e1
          · cases e1
        · cases e1
      · cases e
  · cases e
/-- The calls of some functions hand back a row, and leave all else as it was. -/
def apick (joins : List Nat) (call : ACall) : ACall := fun f l H => bif joins.any (Nat.beq f) then ajoin call f l H else call f l H
theorem apick_ok {joins : List Nat} {call : ACall} (hC : CallOk P call) : CallOk P (apick joins call) := by
  intro w0 f l H outs μ args w e
  unfold apick at e
  cases hb : joins.any (Nat.beq f) with
  | true => rw [hb] at e; exact ajoin_ok hC w0 f l H outs μ args w e
  | false => rw [hb] at e; exact hC w0 f l H outs μ args w e
def am (P : Program) (E : Env) (Q : Eqs) (loops : Nat) (joins : List Nat) : Nat → ACall × ARound
  | 0 => (fun _ _ _ => none, fun _ _ _ => none)
  | d + 1 => (apick joins (acallS P E Q (am P E Q loops joins d).1 (am P E Q loops joins d).2 loops), aroundS P E Q (am P E Q loops joins d).1 (am P E Q loops joins d).2 loops)
theorem am_ok (hE : E.Ok P) (hQ : Q.Ok P) (hm : P.follows .mixedOrders = true) {loops : Nat} {joins : List Nat} : ∀ d, CallOk P (am P E Q loops joins d).1 ∧ RoundOk P (am P E Q loops joins d).2
  | 0 => ⟨(fun _ _ _ _ _ _ _ _ e => by cases e), (fun _ _ _ _ _ _ _ _ _ _ e => by cases e)⟩
  | d + 1 => ⟨apick_ok (acallS_ok hE hQ hm (am_ok hE hQ hm d).1 (am_ok hE hQ hm d).2), aroundS_ok hE hQ hm (am_ok hE hQ hm d).1 (am_ok hE hQ hm d).2⟩
end
end AM
end Go.Proofs.YtoicnghjjgkebaaGreatDoor
namespace Go.Proofs.YtoicnghjjgkebaaGreatDoor
namespace AM
open Go.RowKit
variable [Toks]

def triOf {α : Type} : List α → Nat → Tri α → Tri α
  | [], _, T => T
  | x :: l, i, T => triOf l (i + 1) (T.set 12 i x)
theorem triOf_get {α : Type} : ∀ (l : List α) (i : Nat) (T : Tri α) (k : Nat) (x : α), i + l.length < 4095 → (triOf l i T).get k = some x → (i ≤ k ∧ l[k - i]? = some x) ∨ T.get k = some x
  | [], i, T, k, x, _, h => .inr h
  | y :: l, i, T, k, x, hb, h => by
    rw [List.length_cons] at hb
    rcases triOf_get l (i + 1) _ k x (by omega) h with ⟨h1, h2⟩ | h1
    · refine .inl ⟨by omega, ?_⟩
      rw [show k - i = (k - (i + 1)) + 1 by omega]; exact h2
    · rw [Tri.get_set 12 T i k y (show i + 1 < 2 ^ 12 by omega)] at h1
      by_cases e : k = i
      · rw [if_pos e] at h1; cases h1
        exact .inl ⟨by omega, by rw [e, Nat.sub_self]; rfl⟩
      · rw [if_neg e] at h1; exact .inr h1
abbrev Exts := List (Nat × (Array Value → Sem Value))
def extAt : Exts → Nat → Option (Array Value → Sem Value)
  | [], _ => none
  | (g, e) :: xs, f => bif Nat.beq g f then some e else extAt xs f
def ExtsOk (P : Program) (xs : Exts) : Prop := ∀ x ∈ xs, ∀ (args : Array Value) (w : World), (callFunc x.1 args).run P w = (do pure (.value (← x.2 args)) : Sem Next).run P w
theorem extAt_mem : ∀ (xs : Exts) (f : Nat) (e : Array Value → Sem Value), extAt xs f = some e → (f, e) ∈ xs
  | [], _, _, h => by cases h
  | (g, e') :: xs, f, e, h => by
    rw [extAt] at h
    cases hb : Nat.beq g f with
    | true =>
      rw [hb] at h; cases h
      rw [Nat.eq_of_beq_eq_true hb]; simp
    | false =>
      rw [hb] at h
      exact List.mem_cons_of_mem _ (extAt_mem xs f e h)
def IdsOk (P : Program) (ids : List Nat) : Prop := ∀ f ∈ ids, ∀ (v : Value) (w : World), (callFunc f #[v]).run P w = .ok (.value v) w
def envOf (P : Program) (xs : Exts) (ids : List Nat) : Env where
  info t := (triOf P.types.toList 0 .nil).get t
  und t := match (triOf P.types.toList 0 .nil).get t with
    | some i => match i.desc with
      | .named _ u => match (triOf P.types.toList 0 .nil).get u with
        | some j => some j.desc
        | none => none
      | d => some d
    | none => none
  fn f := (triOf P.funcs.toList 0 .nil).get f
  globs := 0
  ext := extAt xs
  idf g := ids.any (Nat.beq g)
def smallB (P : Program) : Bool := Nat.blt P.types.toList.length 4095 && Nat.blt P.funcs.toList.length 4095 && P.funcs.toList.all fun n => !(n.name == "runtime.NumGoroutine")
theorem envOf_ok {P : Program} {xs : Exts} {ids : List Nat} (h : smallB P = true) (hx : ExtsOk P xs) (hids : IdsOk P ids) : (envOf P xs ids).Ok P := by
  simp only [smallB, Bool.and_eq_true] at h
  obtain ⟨⟨h1, h2⟩, h3⟩ := h
  have h1 : P.types.toList.length < 4095 := Nat.le_of_ble_eq_true h1
  have h2 : P.funcs.toList.length < 4095 := Nat.le_of_ble_eq_true h2
  have ht : ∀ t i, (triOf P.types.toList 0 .nil).get t = some i → P.info? t = some i := fun t i e => by
    rcases triOf_get P.types.toList 0 .nil t i (by omega) e with ⟨_, h⟩ | h
    · rw [Nat.sub_zero] at h
      have h5 : P.types[t]? = some i := by simpa using h
      unfold Tables.info?
      rw [if_pos (Array.getElem?_eq_some_iff.1 h5).1]
      exact h5
    · cases h
  refine ⟨ht, fun t d e => ?_, fun f n e => ?_, fun f e h args w => hx _ (extAt_mem xs f e h) args w, fun f h v w => by
    obtain ⟨g, hg, he⟩ := List.any_eq_true.1 h
    rw [Nat.eq_of_beq_eq_true he]
    exact hids g hg v w, fun _ _ _ _ h => (by cases h), fun _ _ _ h => (by cases h), fun _ _ _ h => (by cases h), fun _ _ _ _ h => (by cases h), fun _ _ _ _ h => (by cases h), fun _ _ h => (by cases h)⟩
  · simp only [envOf] at e
    split at e
    · rename_i i hi
      have h4 := ht t i hi
      unfold Program.underlying
      rw [h4]
      split at e
      · rename_i nm u hd
        split at e
        · rename_i j hj
          cases e
          obtain ⟨d1, d2, d3, d4, d5, d6, d7⟩ := i
          simp_all
        · cases e
      · rename_i d' hd
        cases e
        split
        · rename_i nm u _ heq
          cases heq
          exact absurd rfl (hd _ _)
        · rename_i heq
          cases heq
          rfl
        · rename_i heq; cases heq
    · cases e
  · rcases triOf_get P.funcs.toList 0 .nil f n (by omega) e with ⟨_, h⟩ | h
    · rw [Nat.sub_zero] at h
      refine ⟨by simpa using h, ?_⟩
      have := List.all_eq_true.1 h3 n (List.mem_of_getElem? h)
      simpa using this
    · cases h
def eqsOf (ts : List Nat) : Eqs := ⟨fun t => ts.any (Nat.beq t)⟩
def eqsB (P : Program) (ts : List Nat) : Bool := ts.all fun t => !P.stoodInHeld t && !P.eqGuardType P.depth t
theorem eqsOf_ok {P : Program} {ts : List Nat} (h : eqsB P ts = true) : (eqsOf ts).Ok P := by
  have key : ∀ t, (eqsOf ts).ok t = true → P.stoodInHeld t = false ∧ P.eqGuardType P.depth t = false := fun t ht => by
    obtain ⟨u, hu, he⟩ := List.any_eq_true.1 ht
    rw [Nat.eq_of_beq_eq_true he]
    have := List.all_eq_true.1 h u hu
    simpa using this
  exact ⟨fun t ht => (key t ht).1, fun t ht => (key t ht).2⟩
/-- Tables. -/
def tabsH (ts : List (Nat × List Value)) : AH := ⟨ts.foldl (fun t x => t.set 40 x.1 (.cells x.2 0 false false)) .nil, glob⟩
def TabsAt (w : World) (ts : List (Nat × List Value)) : Prop := ∀ x ∈ ts, ∀ (i : Nat) (v : Value), x.2[i]? = some v → w.cell? ⟨x.1, i, none⟩ = some v
def tabsB (ts : List (Nat × List Value)) : Bool := ts.all fun x => Nat.blt x.1 glob && x.2.all isScalar && !x.2.isEmpty
theorem tabsH_get : ∀ (ts : List (Nat × List Value)) (T : Tri Blk) (k : Nat) (b : Blk), (∀ x ∈ ts, x.1 < glob) → (ts.foldl (fun t x => t.set 40 x.1 (.cells x.2 0 false false)) T).get k = some b → T.get k = some b ∨ ∃ x ∈ ts, x.1 = k ∧ b = .cells x.2 0 false false
  | [], T, k, b, _, h => .inl h
  | x :: ts, T, k, b, hg, h => by
    rw [List.foldl_cons] at h
    rcases tabsH_get ts _ k b (fun y hy => hg y (by simp [hy])) h with h1 | ⟨y, h1, h2, h3⟩
    · rw [Tri.get_set 40 T x.1 k _ (by have := hg x (by simp); unfold glob at this; omega)] at h1
      by_cases e : k = x.1
      · rw [if_pos e] at h1; cases h1
        exact .inr ⟨x, by simp, e.symm, rfl⟩
      · rw [if_neg e] at h1; exact .inl h1
    · exact .inr ⟨y, by simp [h1], h2, h3⟩
def sizeAt (w : World) (k : Nat) : Nat := match w.heap[k]? with
  | some (.cells C _ _) => C.size
  | _ => 0
def mapAt (w : World) : Mp where
  f k := if k < glob then some (k, sizeAt w k) else none
  N := glob
  wf k hk := if_neg (by omega)
  gl k hk := ⟨sizeAt w k, if_pos hk⟩
def baseAt (w : World) : Base := ⟨w, fun g => g < w.heap.size, fun g => g < w.heap.size, fun _ h => h, fun _ h => h⟩
theorem rel_tabs {w : World} {ts : List (Nat × List Value)} (hb : tabsB ts = true) (hw : TabsAt w ts) : Rel (mapAt w) (tabsH ts) (baseAt w) w := by
  have hB : ∀ x ∈ ts, x.1 < glob ∧ (∀ v ∈ x.2, isScalar v = true) ∧ x.2 ≠ [] := fun x hx => by
    have := List.all_eq_true.1 hb x hx
    simp only [Bool.and_eq_true] at this
    exact ⟨Nat.le_of_ble_eq_true this.1.1, fun v hv => List.all_eq_true.1 this.1.2 v hv, fun e => by rw [e] at this; simp at this⟩
  have get : ∀ k b, (tabsH ts).t.get k = some b → ∃ x ∈ ts, x.1 = k ∧ b = .cells x.2 0 false false := fun k b h => by
    rcases tabsH_get ts .nil k b (fun x hx => (hB x hx).1) h with h1 | h1
    · cases h1
    · exact h1
  have blk : ∀ x ∈ ts, ∃ C e fr, w.heap[x.1]? = some (.cells C e fr) ∧ x.2.length ≤ C.size ∧ ∀ (i : Nat) (v : Value), x.2[i]? = some v → C[i]? = some v := fun x hx => by
    have h0 := (hB x hx).2.2
    have hl : 0 < x.2.length := List.length_pos_iff.2 h0
    have cell : ∀ (i : Nat) (v : Value), x.2[i]? = some v → ∃ C e fr, w.heap[x.1]? = some (.cells C e fr) ∧ C[i]? = some v := fun i v hv => by
      have := hw x hx i v hv
      unfold World.cell? at this
      split at this
      · rename_i C e fr hC
        exact ⟨C, e, fr, hC, this⟩
      · cases this
    obtain ⟨C, e, fr, h1, _⟩ := cell 0 _ (List.getElem?_eq_getElem hl)
    have all : ∀ (i : Nat) (v : Value), x.2[i]? = some v → C[i]? = some v := fun i v hv => by
      obtain ⟨C', e', fr', h3, h4⟩ := cell i v hv
      rw [h1] at h3; cases h3; exact h4
    refine ⟨C, e, fr, h1, ?_, all⟩
    have := all (x.2.length - 1) _ (List.getElem?_eq_getElem (by omega))
    have := (Array.getElem?_eq_some_iff.1 this).1
    omega
  refine ⟨rfl, rfl, rfl, Nat.le_refl _, fun _ _ => rfl, by show glob < 2 ^ 40; decide, rfl, fun k b h => ?_, fun k j b c h1 _ _ hown => ?_, fun k b h hl ho g s e => ?_⟩
  · obtain ⟨x, hx, rfl, rfl⟩ := get k b h
    obtain ⟨C, e, fr, h1, h2, h3⟩ := blk x hx
    refine ⟨x.1, C.size, ?_, fun _ => ⟨_, h1, C, fr, e, rfl, rfl, (fun e => by cases e), (fun e => by cases e), h2, fun i v hv => ⟨v, h3 i v hv, .of_scalar _ ((hB x hx).2.1 v (List.mem_of_getElem? hv))⟩⟩, fun h => by cases h⟩
    show (if x.1 < glob then some (x.1, sizeAt w x.1) else none) = _
    rw [if_pos (hB x hx).1]
    simp only [sizeAt, h1]
  · obtain ⟨x, hx, rfl, rfl⟩ := get k b h1
    cases hown
  · obtain ⟨x, hx, rfl, rfl⟩ := get k b h
    obtain ⟨C, e', fr, h1, h2, h3⟩ := blk x hx
    have : (if x.1 < glob then some (x.1, sizeAt w x.1) else none) = some (g, s) := e
    rw [if_pos (hB x hx).1] at this
    cases this
    exact (Array.getElem?_eq_some_iff.1 h1).1
def tells (r : Option Outs) : Bool := match r with
  | some outs => outs.all fun p => match p.1 with
    | .bool b => b
    | _ => false
  | none => false
end AM
end Go.Proofs.YtoicnghjjgkebaaGreatDoor
