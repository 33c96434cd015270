/-
  The abstract machine: what a table that a closed call lays holds for a key, with all blocks behind it. No condition.
  The abstract machine: a call begun with blocks that lie in the world; calls that are known where a part of the memory is as it is written down. No condition.
-/
import Derived.Test.YtdmbppgogdkpdaaGreatDoorM2
import Derived.Lib.LaidTab
set_option linter.unusedSectionVars false
namespace Go.Proofs.YtdmbppgogdkpdaaGreatDoor
namespace AM
open Go.RowKit
variable [Toks]
/-- A value with its blocks' numbers put right. -/
def renV (x : Nat → Nat) : Nat → Value → Value
  | 0, v => v
  | n + 1, v => match v with
    | .agg c => .agg (c.toList.map (renV x n)).toArray
    | .tuple c => .tuple (c.toList.map (renV x n)).toArray
    | .func (.func f) a c => .func (.func f) (a.toList.map (renV x n)).toArray (c.toList.map (renV x n)).toArray
    | .pointer (some a) => .pointer (some ⟨x a.block, a.off, none⟩)
    | .slice (some a) m c => .slice (some ⟨x a.block, a.off, none⟩) m c
    | v => v
/-- A value that is known but for its blocks' numbers. -/
def renB : Nat → Value → Bool
  | 0, _ => false
  | n + 1, v => match v with
    | .agg c => c.toList.all (renB n)
    | .tuple c => c.toList.all (renB n)
    | .func (.func _) a c => a.toList.all (renB n) && c.toList.all (renB n)
    | .pointer (some _) => true
    | .slice (some _) _ c => Nat.blt c big
    | .slice none _ _ => true
    | v => isScalar v
section
variable {P : Program} {E : Env} {Q : Eqs} {ν : Mp}
def numOf (ν : Mp) (k : Nat) : Nat := ((ν k).map (·.1)).getD 0
theorem ren_arr {n : Nat} (ih : ∀ v v', renB n v = true → VR ν v v' → v' = renV (numOf ν) n v) {c c' : Array Value} (h : c.toList.all (renB n) = true) (hs : c.size = c'.size) (hr : ∀ (i : Nat) (v v' : Value), c[i]? = some v → c'[i]? = some v' → VR ν v v') : c' = (c.toList.map (renV (numOf ν) n)).toArray := by
  apply Array.ext
  · simp [hs]
  · intro i h1 h2
    have h3 : i < c.size := by omega
    have hp : renB n c[i] = true := List.all_eq_true.1 h _ (Array.getElem_mem_toList h3)
    have := ih _ _ hp (hr i _ _ (Array.getElem?_eq_getElem h3) (Array.getElem?_eq_getElem h1))
    rw [this]
    simp
theorem ren_inv : ∀ (n : Nat) (v v' : Value), renB n v = true → VR ν v v' → v' = renV (numOf ν) n v
  | 0, _, _, h, _ => by cases h
  | n + 1, v, v', h, hv => by
    unfold renB at h
    split at h
    · cases hv with
      | agg h1 h2 => rw [ren_arr (ren_inv n) h h1 h2]; rfl
    · cases hv with
      | tuple h1 h2 => rw [ren_arr (ren_inv n) h h1 h2]; rfl
    · rw [Bool.and_eq_true] at h
      cases hv with
      | func f s1 r1 s2 r2 => rw [ren_arr (ren_inv n) h.1 s1 r1, ren_arr (ren_inv n) h.2 s2 r2]; rfl
    · cases hv with
      | ptr o hm => simp only [renV, numOf, hm, Option.map_some, Option.getD_some]
    · cases hv with
      | sl o m c hm hc => simp only [renV, numOf, hm, Option.map_some, Option.getD_some]
      | slx o m c c' e hm h1 h2 h3 h4 h5 =>
        rw [Nat.blt_eq] at h
        have h6 : big ≤ e * big := Nat.le_mul_of_pos_left _ h2
        omega
    · cases hv; rfl
    · rename_i h1 h2 h3 h4 h5 h6
      have hs : v' = v := hv.scalar h
      subst hs
      unfold renV
      split
      · exact absurd rfl (h1 _)
      · exact absurd rfl (h2 _)
      · exact absurd rfl (h3 _ _ _)
      · exact absurd rfl (h4 _)
      · exact absurd rfl (h5 _ _ _)
      · rfl
/-- These blocks lie there. -/
def blksB (H : AH) : List (Nat × List Value) → Bool
  | [] => true
  | (p, cs) :: l => (match H.t.get p with
    | some (.cells cs' _ true true) => leqB (veqB 40) cs' cs
    | _ => false) && cs.all (renB 8) && blksB H l
def lookP (E : Env) (Q : Eqs) (t : Nat) (s : ByteArray) (pat : Value) (bl : List (Nat × List Value)) (v : Value) (H : AH) : Bool := (match alookup E Q H t v (.string s) true with
  | some y => veq 40 y pat
  | none => false) && renB 8 pat && blksB H bl
/-- The blocks behind, as they lie in the world. -/
def BlksAt (w w' : World) (x : Nat → Nat) : List (Nat × List Value) → Prop
  | [] => True
  | (p, cs) :: l => (w.heap.size ≤ x p ∧ x p < w'.heap.size ∧ ∀ j c, cs[j]? = some c → w'.cell? ⟨x p, j, none⟩ = some (renV x 8 c)) ∧ BlksAt w w' x l
theorem blks_ok {w w' : World} {H : AH} (h : Rel ν H (baseAt w) w') : ∀ (bl : List (Nat × List Value)), blksB H bl = true → BlksAt w w' (numOf ν) bl
  | [], _ => trivial
  | (p, cs) :: l, hb => by
    simp only [blksB, Bool.and_eq_true] at hb
    obtain ⟨⟨h1, h2⟩, h3⟩ := hb
    refine ⟨?_, blks_ok h l h3⟩
    split at h1
    case h_2 => cases h1
    rename_i cs' ty' hblk
    have e0 := leqB_eq (veqB_eq 40) _ _ h1
    subst e0
    obtain ⟨g, sz, hx, hl, hown⟩ := h.lies p _ hblk
    obtain ⟨ob, hob, C, fr, e', rfl, q1, q2, q3, q4, q5⟩ := hl rfl
    have hn : numOf ν p = g := by simp only [numOf, hx, Option.map_some, Option.getD_some]
    rw [hn]
    refine ⟨?_, (Array.getElem?_eq_some_iff.1 hob).1, fun j c hj => ?_⟩
    · rcases Nat.lt_or_ge g w.heap.size with g1 | g1
      · exact absurd g1 (hown rfl)
      · exact g1
    · obtain ⟨z, hz, hzr⟩ := q5 j c hj
      have hc : renB 8 c = true := List.all_eq_true.1 h2 c (List.mem_of_getElem? hj)
      rw [← ren_inv 8 c z hc hzr]
      unfold World.cell?
      dsimp only
      rw [hob]
      exact hz
theorem lookP_ok (hE : E.Ok P) (hQ : Q.Ok P) {w w' : World} {t : Nat} {s : ByteArray} {pat : Value} {bl : List (Nat × List Value)} {v v' : Value} {H : AH} (h : Rel ν H (baseAt w) w') (hv : VR ν v v') (hb : lookP E Q t s pat bl v H = true) :
    BlksAt w w' (numOf ν) bl ∧ ∀ W, Below w'.heap.size w' W → (Instr.lookup t v' (.string s) true).run P W = .ok (renV (numOf ν) 8 pat) W := by
  simp only [lookP, Bool.and_eq_true] at hb
  obtain ⟨⟨h1, h2⟩, h3⟩ := hb
  refine ⟨blks_ok h bl h3, fun W kW => ?_⟩
  split at h1
  case h_2 => cases h1
  rename_i y hy
  obtain ⟨z, hz1, hz2⟩ := alookup_is hE hQ (h.on kW) hv (.string s) hy
  rw [veq_ok _ _ _ h1] at hz2
  rw [hz1, ren_inv 8 _ _ h2 hz2]
/-- What is asked of a closed call's table: keys, what they hold, the blocks behind. -/
def asksB (E : Env) (Q : Eqs) (t : Nat) (l : List (ByteArray × Value × List (Nat × List Value))) (v : Value) (H : AH) : Bool := l.all fun q => lookP E Q t q.1 q.2.1 q.2.2 v H
theorem table_calls {call : ACall} (hC : CallOk P call) (hE : E.Ok P) (hQ : Q.Ok P) {f t : Nat} {l : List (ByteArray × Value × List (Nat × List Value))} (h : (match call f [] (tabsH []) with | some outs => outs.all fun p => asksB E Q t l p.1 p.2 | none => false) = true) (w : World) :
    Calls P f #[] w fun e w' => ∃ v' x, e = .returned v' ∧ Below w.heap.size w w' ∧ ∀ q ∈ l, BlksAt w w' x q.2.2 ∧ ∀ W, Below w'.heap.size w' W → (Instr.lookup t v' (.string q.1) true).run P W = .ok (renV x 8 q.2.1) W := by
  refine (closed_calls hC h w).mono ?_
  rintro e w' ⟨ν, v, v', H, hb, rfl, hrel, hv⟩
  exact ⟨v', numOf ν, rfl, hrel.belowB, fun q hq => lookP_ok hE hQ hrel hv (List.all_eq_true.1 hb q hq)⟩
end
end AM
end Go.Proofs.YtdmbppgogdkpdaaGreatDoor
namespace Go.Proofs.YtdmbppgogdkpdaaGreatDoor
open Go.RowKit
namespace AM
variable [Toks]
def lookL (L : List (Nat × Nat × Nat × Blk)) (k : Nat) : Option (Nat × Nat) := (L.find? fun x => x.1 == k).map fun x => (x.2.1, x.2.2.1)
theorem lookL_mem {L : List (Nat × Nat × Nat × Blk)} {k : Nat} {p : Nat × Nat} (h : lookL L k = some p) : ∃ x ∈ L, x.1 = k ∧ p = (x.2.1, x.2.2.1) := by
  unfold lookL at h
  cases hf : L.find? (fun x => x.1 == k) with
  | none => rw [hf] at h; cases h
  | some x =>
    rw [hf] at h
    cases h
    exact ⟨x, List.mem_of_find?_eq_some hf, by simpa using List.find?_some hf, rfl⟩
theorem lookL_of {L : List (Nat × Nat × Nat × Blk)} (hu : ∀ x ∈ L, ∀ y ∈ L, x.1 = y.1 → x = y) {x : Nat × Nat × Nat × Blk} (hx : x ∈ L) : lookL L x.1 = some (x.2.1, x.2.2.1) := by
  unfold lookL
  cases hf : L.find? (fun y => y.1 == x.1) with
  | none =>
    have := List.find?_eq_none.1 hf x hx
    simp at this
  | some y =>
    have h1 := List.mem_of_find?_eq_some hf
    have h2 : y.1 = x.1 := by simpa using List.find?_some hf
    rw [hu y h1 x hx h2]
    rfl
def mapL (w : World) (L : List (Nat × Nat × Nat × Blk)) (N : Nat) (hN : glob ≤ N) (hk : ∀ x ∈ L, x.1 < N) (hg : ∀ x ∈ L, x.1 < glob → x.2.1 = x.1) : Mp where
  f k := match lookL L k with
    | some p => some p
    | none => if k < glob then some (k, sizeAt w k) else none
  N := N
  wf k h := by
    cases hl : lookL L k with
    | none => exact if_neg (by omega)
    | some p =>
      obtain ⟨x, hx, rfl, _⟩ := lookL_mem hl
      have := hk x hx
      omega
  gl k h := by
    cases hl : lookL L k with
    | none => exact ⟨sizeAt w k, if_pos h⟩
    | some p =>
      obtain ⟨x, hx, rfl, rfl⟩ := lookL_mem hl
      exact ⟨x.2.2.1, by rw [hg x hx h]⟩
def startH (L : List (Nat × Nat × Nat × Blk)) (N : Nat) : AH := ⟨(L.map fun x => (x.1, x.2.2.2)).foldl (fun T x => T.set 40 x.1 x.2) .nil, N⟩
theorem rel_init {w : World} {L : List (Nat × Nat × Nat × Blk)} {N : Nat} (hN : glob ≤ N) (hk : ∀ x ∈ L, x.1 < N) (hg : ∀ x ∈ L, x.1 < glob → x.2.1 = x.1) (hN2 : N < 2 ^ 40) (hu : ∀ x ∈ L, ∀ y ∈ L, x.1 = y.1 → x = y)
    (ho : ∀ x ∈ L, x.2.2.2.own = false) (hb : ∀ x ∈ L, ∃ o, w.heap[x.2.1]? = some o ∧ BlkR (mapL w L N hN hk hg) x.2.2.1 x.2.2.2 o) : Rel (mapL w L N hN hk hg) (startH L N) (baseAt w) w := by
  have get : ∀ k b, (startH L N).t.get k = some b → ∃ x ∈ L, x.1 = k ∧ b = x.2.2.2 := fun k b h => by
    rcases foldl_get 40 (L.map fun x : Nat × Nat × Nat × Blk => (x.1, x.2.2.2)) .nil k b (fun x hx => by
      obtain ⟨y, hy, rfl⟩ := List.mem_map.1 hx
      have := hk y hy
      simp only
      omega) h with h1 | h1
    · cases h1
    · obtain ⟨y, hy, e⟩ := List.mem_map.1 h1
      cases e
      exact ⟨y, hy, rfl, rfl⟩
  have fm : ∀ x ∈ L, (mapL w L N hN hk hg).f x.1 = some (x.2.1, x.2.2.1) := fun x hx => by
    show (match lookL L x.1 with | some p => some p | none => if x.1 < glob then some (x.1, sizeAt w x.1) else none) = _
    rw [lookL_of hu hx]
  refine ⟨rfl, rfl, rfl, Nat.le_refl _, fun _ _ => rfl, hN2, rfl, fun k b h => ?_, fun k j b c h1 _ _ hown => ?_, fun k b h hl hno g s e => ?_⟩
  · obtain ⟨x, hx, rfl, rfl⟩ := get k b h
    exact ⟨x.2.1, x.2.2.1, fm x hx, fun _ => hb x hx, fun h => by rw [ho x hx] at h; cases h⟩
  · obtain ⟨x, hx, rfl, rfl⟩ := get k b h1
    rw [ho x hx] at hown
    cases hown
  · obtain ⟨x, hx, rfl, rfl⟩ := get k b h
    rw [fm x hx] at e
    cases e
    obtain ⟨o, h1, _⟩ := hb x hx
    exact (Array.getElem?_eq_some_iff.1 h1).1
section
variable {P : Program} {E : Env} {Q : Eqs}
/-- A call that is known wherever this part of the memory lies there. -/
def acallN (f0 : Nat) (vs : List Value) (S : Cut) (r : Value) (call : ACall) : ACall := fun f l H => bif Nat.beq f f0 && leqB (veqB 40) l vs && { S with next := H.next }.fits .nil H then some [(r, H)] else call f l H
theorem acallN_ok {f0 : Nat} {vs : List Value} {S : Cut} {r rv : Value} {conc : Array Value} (h : ∀ (μ : Mp) (w0 : Base) (n : Nat) (w : World), Rel μ ({ S with next := n } : Cut).H w0 w → Calls P f0 conc w fun e w' => e = .returned rv ∧ Below w.heap.size w w')
    (hc : ∀ (μ : Mp) (args : Array Value), LR μ vs args.toList → args = conc) (hr : ∀ μ : Mp, VR μ r rv) (call : ACall) (hC : CallOk P call) : CallOk P (acallN f0 vs S r call) := by
  intro w0 f l H outs μ args w e hrel hl
  unfold acallN at e
  cases hb : (Nat.beq f f0 && leqB (veqB 40) l vs && ({ S with next := H.next } : Cut).fits .nil H) with
  | false => rw [hb, cond_false] at e; exact hC w0 f l H outs μ args w e hrel hl
  | true =>
    rw [hb, cond_true] at e
    cases e
    simp only [Bool.and_eq_true] at hb
    obtain rfl := Nat.eq_of_beq_eq_true hb.1.1
    rw [leqB_eq (veqB_eq 40) _ _ hb.1.2] at hl
    obtain rfl := hc μ args hl
    refine callsIn_fw (r := none) (n := 0) (CallsIn.mono ((callsIn_wide (n := 0)).2 (h μ w0 H.next w (Cut.part hb.2 hrel))) ?_)
    rintro _ w' ⟨rfl, k⟩
    exact ⟨(r, H), by simp, μ, rv, rfl, .refl μ, hrel.next k, hr μ⟩
/-- A variable whose cells are all known, and plain. -/
theorem var_of_rel {μ : Mp} {H : AH} {w0 : Base} {w : World} (h : Rel μ H w0 w) {g : Nat} {cs : List Value} {e : TypeId} {rw' : Bool} (hg : g < glob) (hH : H.t.get g = some (.cells cs e true rw')) (hs : cs.all isScalar = true) : ∃ e' fr, w.heap[g]? = some (.cells cs.toArray e' fr) := by
  obtain ⟨g', s, h1, h2, _⟩ := h.lies g _ hH
  obtain ⟨o, ho, C, fr, e', rfl, q1, _, q3, _, q5⟩ := h2 rfl
  obtain ⟨s', hs'⟩ := μ.gl g hg
  have e1 : some (g', s) = some (g, s') := h1.symm.trans hs'
  cases e1
  refine ⟨e', fr, ?_⟩
  have hC : C = cs.toArray := by
    apply Array.ext
    · rw [q1, q3 rfl]; simp
    · intro i i1 i2
      have i3 : i < cs.length := by simpa using i2
      obtain ⟨v', hv', hr⟩ := q5 i cs[i] (List.getElem?_eq_getElem i3)
      have : v' = cs[i] := hr.scalar (List.all_eq_true.1 hs _ (List.getElem_mem i3))
      rw [Array.getElem?_eq_getElem i1] at hv'
      cases hv'
      simpa using this
  rw [ho, hC]
theorem tabIs_of_rel {μ : Mp} {H : AH} {w0 : Base} {w : World} (h : Rel μ H w0 w) {g : Nat} {k : IntKind} {zs : List Int} {e : TypeId} {rw' : Bool} {name : String} (hn : P.globalNamed name = some g) (hg : g < glob) (hH : H.t.get g = some (.cells (zs.map fun z => .int k z) e true rw')) : Lib.TabIs P w name k zs := by
  obtain ⟨e', fr, hw⟩ := var_of_rel h hg hH (by simp [isScalar])
  unfold Lib.TabIs World.var?
  rw [hn]
  simp only [Option.bind_some, hw]
end
end AM
end Go.Proofs.YtdmbppgogdkpdaaGreatDoor
