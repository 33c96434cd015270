/-
  The abstract machine: the operations of a statement in the order of the text. No condition.
  The abstract machine: blocks that are laid ahead of their turn. No condition.
  The abstract machine: the operations of a statement whose order is drawn: what is computed. No condition.
-/
import Derived.Test.YtoicnghjjgkebaaGreatDoorV18
set_option linter.unusedSectionVars false
set_option linter.unusedSimpArgs false
set_option linter.unusedVariables false
set_option linter.unnecessarySimpa false
namespace Go.Proofs.YtoicnghjjgkebaaGreatDoor
namespace AM
open Go.RowKit
variable [Toks]

section
variable {P : Program} {E : Env} {Q : Eqs} {call : ACall} {n : Nat}
/-- Is an operation wanted? -/
def awant (all : List Oper) (T : Nat → Option Value) (o : Oper) : Option Bool := match o.guard with
  | none => some true
  | some (j, want) => match all[j]? with
    | some p => match p.dst with
      | some d => match T d with
        | some (.bool b) => some (b == want)
        | some (.tuple _) => some false
        | _ => none
      | none => none
    | none => none
theorem awant_ok {μ : Mp} {ops : Array Oper} {T : Nat → Option Value} {a : Act} {o : Oper} {b : Bool} (hT : TR μ T a.tmps) (e : awant ops.toList T o = some b) : Region.wanted o (yielded ops a.tmps) = b := by
  unfold awant at e
  unfold Region.wanted
  split at e
  · rename_i hg
    cases e
    rw [hg]
  · rename_i j want hg
    rw [hg]
    split at e
    · rename_i p hp
      split at e
      · rename_i d hd
        split at e
        · rename_i b' hb
          cases e
          obtain ⟨v', h1, h2⟩ := hT d _ hb
          cases h2
          have hp' : ops[j]? = some p := by simpa using hp
          simp only [yielded, hp', Option.bind_some, hd, h1]
          cases b' <;> cases want <;> rfl
        · rename_i x hb
          cases e
          obtain ⟨v', h1, h2⟩ := hT d _ hb
          cases h2
          have hp' : ops[j]? = some p := by simpa using hp
          simp only [yielded, hp', Option.bind_some, hd, h1]
          cases want <;> rfl
        · cases e
      · cases e
    · cases e
def aseq (P : Program) (E : Env) (Q : Eqs) (call : ACall) (round : ARound) (n : Nat) (all : List Oper) : List Oper → Tri Value → AH → Option (List (Tri Value × AH))
  | [], T, H => some [(T, H)]
  | o :: os, T, H => match awant all T.get o with
    | some true => match aoper P E Q call round T.get H o with
      | some outs => abind (fun p => match aput T n o.dst p.1 with
        | some T' => aseq P E Q call round n all os T' p.2
        | none => none) outs
      | none => none
    | some false => match aput T n o.dst undef with
      | some T' => aseq P E Q call round n all os T' H
      | none => none
    | none => none
theorem aseq_ok (hE : E.Ok P) (hQ : Q.Ok P) {w0 : Base} {D : List Deferred} {round : ARound} (hC : CallOk P call) (hR : RoundOk P round) {r : Option Nat} {m : Nat} {ops : Array Oper} {Qx : Exit → Act → World → Prop} : ∀ (os : List Oper) (k : Nat) (T : Tri Value) (H : AH) (outs : List (Tri Value × AH)) (μ : Mp) (a : Act) (w : World),
    ops.toList.drop k = os → aseq P E Q call round n ops.toList os T H = some outs → St μ H T n D w0 a w → (∀ p ∈ outs, ∀ ν a' w', μ.le ν → St ν p.2 p.1 n D w0 a' w' → Qx .normal a' w') → wpOpsIn (fw r) m P ops Qx (List.range' k os.length) a w
  | [], k, T, H, outs, μ, a, w, _, e, hs, hk => by
    simp only [aseq, Option.some.injEq] at e
    subst e
    exact hk (T, H) (by simp) μ a w (.refl μ) hs
  | o :: os, k, T, H, outs, μ, a, w, hd, e, hs, hk => by
    have ho : ops[k]? = some o := by
      have : ops.toList[k]? = some o := by
        have := List.getElem?_drop (xs := ops.toList) (i := k) (j := 0)
        rw [hd] at this
        simpa using this.symm
      simpa using this
    have hd' : ops.toList.drop (k + 1) = os := by
      rw [← List.drop_drop, hd]; rfl
    simp only [List.length_cons, List.range'_succ]
    rw [wpOpsIn_cons]
    simp only [wpOpIn, ho]
    rw [aseq] at e
    split at e
    · rename_i hw
      rw [if_pos (awant_ok hs.tmps hw)]
      split at e
      · rename_i ps hv
        refine aoper_ok hE hQ hC hR hs.rel hs.tmps hv ?_
        intro p hp ν v' w' hle hrel hvr
        obtain ⟨m1, h1, h2⟩ := abind_mem e p hp
        split at h1
        · rename_i T1 hT1
          obtain ⟨p1, p2, p3⟩ := aput_ok (hs.tmps.mono hle) hs.size hs.defers hvr hT1
          exact aseq_ok hE hQ hC hR os (k + 1) T1 p.2 m1 ν _ w' hd' h1 ⟨hrel, p1, p2, p3⟩ (fun q hq ξ a' w'' h3 h4 => hk q (h2 q hq) ξ a' w'' (hle.trans h3) h4)
        · cases h1
      · cases e
    · rename_i hw
      rw [if_neg (by rw [awant_ok hs.tmps hw]; decide)]
      refine ⟨fun _ _ => trivial, ?_⟩
      split at e
      · rename_i T1 hT1
        obtain ⟨p1, p2, p3⟩ := aput_ok hs.tmps hs.size hs.defers (cval_ok μ 3 undef rfl) hT1
        exact aseq_ok hE hQ hC hR os (k + 1) T1 H outs μ _ w hd' e ⟨hs.rel, p1, p2, p3⟩ hk
      · cases e
    · cases e
end
end AM
end Go.Proofs.YtoicnghjjgkebaaGreatDoor
namespace Go.Proofs.YtoicnghjjgkebaaGreatDoor
namespace AM
open Go.RowKit
variable [Toks]

section
variable {P : Program} {E : Env} {Q : Eqs} {μ : Mp} {H : AH} {w : World} {T : Nat → Option Value} {a : Act}
/-- A base that keeps more. -/
structure Under (b0 b : Base) : Prop where
  os : b.w.os = b0.w.os
  tape : b.w.tape = b0.w.tape
  output : b.w.output = b0.w.output
  size : b0.w.heap.size ≤ b.w.heap.size
  keep : ∀ g, b0.B g → b.w.heap[g]? = b0.w.heap[g]?
  sub : ∀ g, b0.B g → b.B g
  L : b.L = b0.L
theorem Under.refl (b : Base) : Under b b := ⟨rfl, rfl, rfl, Nat.le_refl _, fun _ _ => rfl, fun _ h => h, rfl⟩
theorem Rel.back {b0 b : Base} (h : Rel μ H b w) (u : Under b0 b) : Rel μ H b0 w :=
  ⟨h.os.trans u.os, h.tape.trans u.tape, h.output.trans u.output, Nat.le_trans u.size h.size, fun g hg => (h.keep g (u.sub g hg)).trans (u.keep g hg), h.small, h.num,
   fun k c hk => let ⟨g, s, h1, h2, h3⟩ := h.lies k c hk; ⟨g, s, h1, h2, fun ho hB => h3 ho (u.sub g hB)⟩, h.apart, fun k c hk hl ho g s e => by rw [← u.L]; exact h.ro k c hk hl ho g s e⟩
/-- The mapping of a number that had none. -/
def Mp.at (μ : Mp) (id : Nat) (l : Nat × Nat) (hid : id < μ.N) (h0 : μ.f id = none) : Mp := ⟨fun k => if k = id then some l else μ k, μ.N, fun k hk => by
  show (if k = id then _ else _) = _
  rw [if_neg (by omega)]; exact μ.wf k hk, fun k hk => by
  show ∃ s', (if k = id then _ else _) = _
  rw [if_neg (fun (e : k = id) => μ.glob_lt (k := k) (by rw [e]; exact h0) hk)]; exact μ.gl k hk⟩
theorem Mp.at_self (μ : Mp) (id : Nat) (l : Nat × Nat) (hid : id < μ.N) (h0 : μ.f id = none) : (μ.at id l hid h0) id = some l := if_pos rfl
theorem Mp.at_ne (μ : Mp) {id k : Nat} (l : Nat × Nat) (hid : id < μ.N) (h0 : μ.f id = none) (hk : k ≠ id) : (μ.at id l hid h0) k = μ k := if_neg hk
theorem Mp.at_sub (μ : Mp) {id : Nat} (l : Nat × Nat) (hid : id < μ.N) (h0 : μ.f id = none) : μ.sub (μ.at id l hid h0) := fun k m e => by
  rw [Mp.at_ne μ l hid h0 (by rintro rfl; rw [show μ.f k = none from h0] at e; cases e)]; exact e
theorem Rel.remap {b : Base} (h : Rel μ H b w) {id : Nat} {l : Nat × Nat} (hid : id < μ.N) (h0 : μ.f id = none) : Rel (μ.at id l hid h0) H b w := by
  have hs := Mp.at_sub μ l hid h0
  have key : ∀ k c, H.t.get k = some c → (μ.at id l hid h0) k = μ k := fun k c hk => by
    obtain ⟨g, s, h1, _⟩ := h.lies k c hk
    rw [h1]; exact hs _ _ h1
  refine ⟨h.os, h.tape, h.output, h.size, h.keep, h.small, h.num, ?_, ?_, ?_⟩
  · intro k c hk
    obtain ⟨g, s, h1, h2, h3⟩ := h.lies k c hk
    exact ⟨g, s, hs _ _ h1, fun hl => let ⟨o, h4, h5⟩ := h2 hl; ⟨o, h4, h5.monoS hs⟩, h3⟩
  · intro k j c d hk hj hne ho hl g s g' s' e1 e2
    rw [key k c hk] at e1
    rw [key j d hj] at e2
    exact h.apart k j c d hk hj hne ho hl g s g' s' e1 e2
  · intro k c hk hl ho g s e1
    rw [key k c hk] at e1
    exact h.ro k c hk hl ho g s e1
/-- A base that keeps one block more: the one that is just laid. -/
def Base.lay (b : Base) (w : World) (o : Obj) (h : b.w.heap.size ≤ w.heap.size) : Base := ⟨w.alloc o, fun g => b.B g ∨ g = w.heap.size, b.L,
  fun g hg => by
    have hz : (w.alloc o).heap.size = w.heap.size + 1 := by simp
    rcases hg with hg | hg
    · have := b.bound g hg; omega
    · omega,
  fun g hg => by
    have hz : (w.alloc o).heap.size = w.heap.size + 1 := by simp
    have := b.lbound g hg; omega⟩
theorem Rel.low {b : Base} (h : Rel μ H b w) {k : Nat} {c : Blk} (hk : H.t.get k = some c) (hl : c.live = true) {g s : Nat} (e : μ k = some (g, s)) : g < w.heap.size := by
  obtain ⟨g', s', e', l1, _⟩ := h.lies k c hk
  rw [e] at e'; cases e'
  obtain ⟨o', ho, _⟩ := l1 hl
  exact (Array.getElem?_eq_some_iff.1 ho).1
theorem Rel.lay {b : Base} (h : Rel μ H b w) (o : Obj) : Rel μ H (b.lay w o h.size) (w.alloc o) := by
  refine ⟨rfl, rfl, rfl, Nat.le_refl _, fun g _ => rfl, h.small, h.num, ?_, h.apart, h.ro⟩
  intro k c hk
  obtain ⟨g, s, h1, h2, h3⟩ := h.lies k c hk
  refine ⟨g, s, h1, fun hl => ?_, fun ho hB => ?_⟩
  · obtain ⟨o', h4, h5⟩ := h2 hl
    exact ⟨o', by rw [Below.heap_alloc _ _ _ (h.low hk hl h1)]; exact h4, h5⟩
  · rcases hB with hB | hB
    · exact h3 ho hB
    · have := h.low hk (Blk.live_own ho) h1
      omega
theorem Under.lay {b0 b : Base} (u : Under b0 b) (h : Rel μ H b w) (o : Obj) : Under b0 (b.lay w o h.size) where
  os := h.os.trans u.os
  tape := h.tape.trans u.tape
  output := h.output.trans u.output
  size := Nat.le_trans u.size (Nat.le_trans h.size (by show w.heap.size ≤ (w.alloc o).heap.size; simp))
  keep := fun g hg => by
    have hlt : g < w.heap.size := Nat.lt_of_lt_of_le (b.bound g (u.sub g hg)) h.size
    show (w.alloc o).heap[g]? = _
    rw [Below.heap_alloc _ _ _ hlt, h.keep g (u.sub g hg)]; exact u.keep g hg
  sub := fun g hg => .inl (u.sub g hg)
  L := u.L
/-- A block that was kept comes into its own. -/
def Base.free (b : Base) (g : Nat) : Base := ⟨b.w, fun j => b.B j ∧ j ≠ g, b.L, fun j hj => b.bound j hj.1, b.lbound⟩
theorem Under.free {b0 b : Base} (u : Under b0 b) {g : Nat} (hg : ¬ b0.B g) : Under b0 (b.free g) := ⟨u.os, u.tape, u.output, u.size, u.keep, fun j hj => ⟨u.sub j hj, by rintro rfl; exact hg hj⟩, u.L⟩
theorem Rel.adopt {b : Base} (h : Rel μ H b w) {id g s : Nat} {o : Obj} {c : Blk} (hid : id < H.next) (hm : μ id = some (g, s)) (ho : w.heap[g]? = some o) (hr : BlkR μ s c o) (hc : c.own = true) (hB : b.B g) (hL : ¬ b.L g) :
    Rel μ (H.put id c) (b.free g) w := by
  refine ⟨h.os, h.tape, h.output, h.size, fun j hj => h.keep j hj.1, h.small, h.num, ?_, ?_, ?_⟩
  · intro k d hk
    rw [h.get_put hid] at hk
    by_cases e : k = id
    · rw [if_pos e] at hk; cases hk
      subst e
      exact ⟨g, s, hm, fun _ => ⟨o, ho, hr⟩, fun _ hx => hx.2 rfl⟩
    · rw [if_neg e] at hk
      obtain ⟨g1, s1, h1, h2, h3⟩ := h.lies k d hk
      exact ⟨g1, s1, h1, h2, fun ho hx => h3 ho hx.1⟩
  · have key : ∀ j d, H.t.get j = some d → d.live = true → ∀ g2 s2, μ j = some (g2, s2) → g ≠ g2 := by
      intro j d hj hl g2 s2 e2 eg
      subst eg
      cases hd : d.own with
      | true =>
        obtain ⟨g1, s1, h1, _, h3⟩ := h.lies j d hj
        rw [e2] at h1; cases h1
        exact h3 hd hB
      | false => exact hL (h.ro j d hj hl hd _ _ e2)
    intro k j d f hk hj hne hown hlive g1 s1 g2 s2 e1 e2
    rw [h.get_put hid] at hk hj
    by_cases e : k = id
    · rw [if_pos e] at hk; cases hk
      subst e
      rw [hm] at e1; cases e1
      rw [if_neg (fun e' => hne e'.symm)] at hj
      exact key j f hj hlive g2 s2 e2
    · rw [if_neg e] at hk
      by_cases e' : j = id
      · subst e'
        rw [hm] at e2; cases e2
        exact fun eg => key k d hk (Blk.live_own hown) g1 s1 e1 eg.symm
      · rw [if_neg e'] at hj
        exact h.apart k j d f hk hj hne hown hlive g1 s1 g2 s2 e1 e2
  · intro k d hk hl hd g1 s1 e1
    rw [h.get_put hid] at hk
    by_cases e : k = id
    · rw [if_pos e] at hk; cases hk; rw [hc] at hd; cases hd
    · rw [if_neg e] at hk
      exact h.ro k d hk hl hd g1 s1 e1
/-- What allocates. -/
def isAlloc : Op → Bool
  | .alloc _ | .box .. | .buildSlice .. | .makeMap .. | .makeSlice .. => true
  | _ => false
def abuildRow (E : Env) (t len : Nat) (ps : List (Nat × Value)) : Option (List Value × Nat) := match E.und t with
  | some (.slice el) => match E.info el with
    | some i => match i.zero with
      | some z =>
        let l := arep (bif Nat.beq (len * i.size) 0 then #[] else z.cells) (len * i.size)
        bif l.all (cval 6) && Nat.ble (len * i.size) 1048576 then (match afill (fun k => some (k * i.size, i.size)) l ps with
          | some r => some (r, el)
          | none => none) else none
      | none => none
    | none => none
  | _ => none
theorem abuildRow_ok (hE : E.Ok P) {t len : Nat} {ps : List (Nat × Value)} {ps' : Array (Nat × Value)} {r : List Value} {el : Nat} (hp : PR μ ps ps'.toList) (e : abuildRow E t len ps = some (r, el)) :
    ∃ r' : Array Value, LR μ r r'.toList ∧ (Instr.buildSlice t len ps').run P w = (do pure (.slice (some (← newRow el r')) len len) : Sem Value).run P w := by
  unfold abuildRow at e
  split at e
  · rename_i el hu
    split at e
    · rename_i i hi
      split at e
      · rename_i z hz
        dsimp only at e
        cases hc : ((arep (bif Nat.beq (len * i.size) 0 then #[] else z.cells) (len * i.size)).all (cval 6) && Nat.ble (len * i.size) 1048576) with
        | false => rw [hc] at e; cases e
        | true =>
          rw [hc, cond_true] at e
          rw [Bool.and_eq_true] at hc
          have hle := Nat.le_of_ble_eq_true hc.2
          split at e
          · rename_i r0 hr
            cases e
            obtain ⟨r', h1, h2⟩ := afill_ok (place' := fun k => some (k * i.size, i.size)) (fun k => rfl) ps ps'.toList _ _ ((Array.range (len * i.size)).map ((bif Nat.beq (len * i.size) 0 then #[] else z.cells)[· % (bif Nat.beq (len * i.size) 0 then #[] else z.cells).size]!)) hp (by rw [arep_eq]; exact LR.refl_of hc.1) hr
            refine ⟨r', h2, ?_⟩
            simp only [Instr.buildSlice, Sem.run_bind, run_und hE hu, run_size hE hi, Result.andThen_ok]
            rw [if_neg (by omega)]
            by_cases h0 : len * i.size = 0
            · rw [h0] at h1
              simp only [show Nat.beq 0 0 = true from rfl, cond_true] at h1
              rw [if_pos h0, h0]
              simp only [Sem.run_bind, Sem.run_pure, Result.andThen_ok, h1]
            · rw [beq_ne h0, cond_false] at h1
              rw [if_neg h0]
              simp only [Sem.run_bind, run_zero hE hi hz, Result.andThen_ok, Sem.run_pure, h1]
          · cases e
      · cases e
    · cases e
  · cases e
def amakeRow (E : Env) (t : Nat) : Value → Value → Option (List Value × Nat × Nat × Nat)
  | .int _ L, .int _ C => match E.und t with
    | some (.slice el) => match E.info el with
      | some i => match i.zero with
        | some z =>
          if 0 ≤ L ∧ L ≤ C ∧ C ≤ 1048576 ∧ i.bytes ≤ 1048576 then
            let l := arep (bif Nat.beq (C.toNat * i.size) 0 then #[] else z.cells) (C.toNat * i.size)
            bif l.all (cval 6) then some (l, el, L.toNat, C.toNat) else none
          else none
        | none => none
      | none => none
    | _ => none
  | _, _ => none
theorem amakeRow_ok (hE : E.Ok P) {t : Nat} {x x' y y' : Value} {r : List Value} {el L0 C0 : Nat} (hx : VR μ x x') (hy : VR μ y y') (e : amakeRow E t x y = some (r, el, L0, C0)) :
    ∃ r' : Array Value, LR μ r r'.toList ∧ (Instr.makeSlice t x' y').run P w = (do pure (.slice (some (← newRow el r')) L0 C0) : Sem Value).run P w := by
  unfold amakeRow at e
  split at e
  · rename_i k1 L k2 C
    cases hx; cases hy
    split at e
    · rename_i el hu
      split at e
      · rename_i i hi
        split at e
        · rename_i z hz
          split at e
          · rename_i hb
            obtain ⟨b1, b2, b3, b4⟩ := hb
            dsimp only at e
            cases hc : (arep (bif Nat.beq (C.toNat * i.size) 0 then #[] else z.cells) (C.toNat * i.size)).all (cval 6) with
            | false => rw [hc] at e; cases e
            | true =>
              rw [hc, cond_true] at e
              cases e
              obtain ⟨n, rfl⟩ : ∃ n : Nat, C = n := ⟨C.toNat, by omega⟩
              simp only [Int.toNat_natCast] at *
              have hmul : (i.bytes : Int) * (n : Int) ≤ 2 ^ 48 := by
                have h1 : i.bytes * n ≤ 1048576 * 1048576 := Nat.mul_le_mul b4 (by omega)
                have : ((i.bytes * n : Nat) : Int) ≤ 1099511627776 := by omega
                rw [Int.natCast_mul] at this
                omega
              refine ⟨(Array.range (n * i.size)).map ((bif Nat.beq (n * i.size) 0 then #[] else z.cells)[· % (bif Nat.beq (n * i.size) 0 then #[] else z.cells).size]!), by rw [arep_eq]; exact LR.refl_of hc, ?_⟩
              have w1 : IntKind.i64.wrap L = L := wrap_small b1 (by omega)
              have w2 : IntKind.i64.wrap (n : Int) = n := wrap_small (by omega) (by omega)
              simp only [Instr.makeSlice, asInt, asIntOf, Sem.run_bind, run_und hE hu, run_info hE hi, run_size hE hi, Result.andThen_ok, Sem.run_pure, w1, w2]
              rw [if_neg (by simp; omega)]
              simp only [Sem.run_bind, run_askRoom, Result.andThen_ok, Int.toNat_natCast, run_size hE hi]
              by_cases h0 : n * i.size = 0
              · rw [if_pos h0, h0]
                simp only [Sem.run_bind, Sem.run_pure, Result.andThen_ok]
                rfl
              · rw [if_neg h0, beq_ne h0]
                simp only [Sem.run_bind, run_zero hE hi hz, Result.andThen_ok, Sem.run_pure, cond_false]
          · cases e
        · cases e
      · cases e
    · cases e
  · cases e
def aallocB (E : Env) (T : Nat → Option Value) (id : Nat) : Op → Option (Value × Blk)
  | .alloc e => match E.info e with
    | some i => match i.zero with
      | some z => bif z.cells.toList.all (cval 6) then some (.pointer (some ⟨id, 0, none⟩), .cells z.cells.toList e true true) else none
      | none => none
    | none => none
  | .box e x => match aeval T x with
    | some v => some (.pointer (some ⟨id, 0, none⟩), .cells v.cells.toList e true true)
    | none => none
  | .buildSlice t n ps => match aparts T ps.toList with
    | some l => match abuildRow E t n l with
      | some (r, el) => bif Nat.blt n big then some (.slice (some ⟨id, 0, none⟩) n n, .cells r el true true) else none
      | none => none
    | none => none
  | .makeSlice t x y => match aeval T x, aeval T y with
    | some v, some u => match amakeRow E t v u with
      | some (r, el, L, C) => bif Nat.blt C big then some (.slice (some ⟨id, 0, none⟩) L C, .cells r el true true) else none
      | none => none
    | _, _ => none
  | .makeMap t r => match aopt T r with
    | some none => some (.map (some id), .map [] 0)
    | some (some (.int _ _)) => match E.und t with
      | some (.map _ _) => some (.map (some id), .map [] 0)
      | _ => none
    | _ => none
  | _ => none
theorem newCells {t : Nat} {c : List Value} {c' : Array Value} (hc : LR μ c c'.toList) : BlkR μ c'.size (.cells c t true true) (.cells c' t) :=
  ⟨c', (0, 0), t, rfl, rfl, fun _ => ⟨rfl, .inl rfl⟩, fun _ => by have := hc.1; simp at this; omega, by have := hc.1; simp at this; omega, fun i u hu => by
    have hi : i < c.length := by
      rcases Nat.lt_or_ge i c.length with k | k
      · exact k
      · rw [List.getElem?_eq_none k] at hu; cases hu
    have hi' : i < c'.size := by have := hc.1; simp at this; omega
    exact ⟨c'[i], Array.getElem?_eq_getElem hi', hc.2 i u _ hu (by simp [hi'])⟩⟩
theorem aallocB_ok (hE : E.Ok P) (ht : TR μ T a.tmps) {o : Oper} {id : Nat} {v : Value} {b : Blk} (e : aallocB E T id o.op = some (v, b)) :
    b.own = true ∧ (∀ c, o.op ≠ .defer c) ∧ ∃ ob s v', (execOp a.eval o).run P w = .ok (.value v') (w.alloc ob) ∧ BlkR μ s b ob ∧ ∀ ν : Mp, ν id = some (w.heap.size, s) → VR ν v v' := by
  have ev := fun {x : Operand} {v : Value} (e : aeval T x = some v) => aeval_ok ht e
  unfold execOp
  cases ho : o.op <;> rw [ho] at e <;> simp only [aallocB] at e <;> dsimp only
  case alloc t =>
    split at e
    · rename_i i hi
      split at e
      · rename_i z hz
        cases hb : z.cells.toList.all (cval 6) with
        | false => rw [hb] at e; cases e
        | true =>
          rw [hb, cond_true] at e
          cases e
          refine ⟨rfl, (fun c hc => by cases hc), .cells z.cells t, z.cells.size, .pointer (some ⟨w.heap.size, 0, none⟩), ?_, newCells (LR.refl_of hb), fun ν hν => .ptr 0 hν⟩
          simp only [Instr.alloc, Sem.run_bind, run_zero hE hi hz, Result.andThen_ok, newVar, newRow, newObj, Sem.run, Sem.run_pure]
          rfl
      · cases e
    · cases e
  case box t x =>
    split at e
    · rename_i u hu
      cases e
      refine ⟨rfl, (fun c hc => by cases hc), .cells (a.eval x).cells t, (a.eval x).cells.size, .pointer (some ⟨w.heap.size, 0, none⟩), ?_, newCells (ev hu).cells, fun ν hν => .ptr 0 hν⟩
      simp only [Sem.run_bind]
      rfl
    · cases e
  case buildSlice t n ps =>
    split at e
    · rename_i l hl
      split at e
      · rename_i r el hr
        cases hb : Nat.blt n big with
        | false => rw [hb] at e; cases e
        | true =>
          rw [hb, cond_true] at e
          cases e
          obtain ⟨r', h1, h2⟩ := abuildRow_ok (w := w) hE (aparts_ok ht _ l hl).map hr
          refine ⟨rfl, (fun c hc => by cases hc), .cells r' el, r'.size, .slice (some ⟨w.heap.size, 0, none⟩) n n, ?_, newCells h1, fun ν hν => .sl 0 n n hν (Nat.le_of_ble_eq_true hb)⟩
          simp only [Sem.run_bind, h2, Result.andThen_ok, newRow, newObj, Sem.run, Sem.run_pure]
          rfl
      · cases e
    · cases e
  case makeSlice t x y =>
    split at e
    · rename_i v1 u1 h1 h2
      split at e
      · rename_i r el L C hr
        cases hb : Nat.blt C big with
        | false => rw [hb] at e; cases e
        | true =>
          rw [hb, cond_true] at e
          cases e
          obtain ⟨r', h3, h4⟩ := amakeRow_ok (w := w) hE (ev h1) (ev h2) hr
          refine ⟨rfl, (fun c hc => by cases hc), .cells r' el, r'.size, .slice (some ⟨w.heap.size, 0, none⟩) L C, ?_, newCells h3, fun ν hν => .sl 0 L C hν (Nat.le_of_ble_eq_true hb)⟩
          simp only [Sem.run_bind, h4, Result.andThen_ok, newRow, newObj, Sem.run, Sem.run_pure]
          rfl
      · cases e
    · cases e
  case makeMap t r =>
    split at e
    · rename_i hr
      have := aopt_ok ht hr
      cases r with
      | none =>
        cases e
        refine ⟨rfl, (fun c hc => by cases hc), .map #[] 0, 0, .map (some w.heap.size), ?_, ⟨#[], rfl, rfl, by simp⟩, fun ν hν => .map hν⟩
        simp only [Option.map_none, Instr.makeMap, newObj, Sem.run_bind, Sem.run_pure, Sem.run, Result.andThen_ok]; rfl
      | some x => exact this.elim
    · rename_i k n hr
      have hr2 := aopt_ok ht hr
      cases r with
      | none => exact hr2.elim
      | some x =>
        split at e
        · rename_i ka kb hu
          simp only [OR, Option.map_some] at hr2
          have hx : a.eval x = .int k n := by generalize a.eval x = av at hr2; cases hr2; rfl
          cases e
          refine ⟨rfl, (fun c hc => by cases hc), .map #[] 0, 0, .map (some w.heap.size), ?_, ⟨#[], rfl, rfl, by simp⟩, fun ν hν => .map hν⟩
          simp only [Option.map_some, hx, Instr.makeMap, newObj, Sem.run_bind, Sem.run_pure, Sem.run, Result.andThen_ok, run_und hE hu, asInt, asIntOf]; rfl
        · cases e
    · cases e
  all_goals cases e
end
end AM
end Go.Proofs.YtoicnghjjgkebaaGreatDoor
namespace Go.Proofs.YtoicnghjjgkebaaGreatDoor
namespace AM
open Go.RowKit
variable [Toks]

section
variable {P : Program} {E : Env} {Q : Eqs} {call : ACall} {round : ARound} {n : Nat}
/-- Those that ask nothing of memory. -/
def isPure : Op → Bool
  | .move _ | .assign _ | .pick .. | .build .. | .nilCheck _ | .binOp .. | .unOp .. | .makeInterface .. | .makeFunc .. | .slice .. | .fieldAddr .. | .field .. | .indexAddr .. | .index .. | .extract .. | .typeAssert .. => true
  | _ => false
/-- Those that only read. -/
def isReader (E : Env) : Op → Bool
  | .load .. | .lookup .. => true
  | .convert _ d _ => match E.und d with
    | some (.slice _) => false
    | some _ => true
    | none => false
  | .call c => match c.callee with
    | .builtin .len | .builtin .max | .builtin .min => true
    | _ => false
  | _ => false
theorem aoper_pure {T : Nat → Option Value} {H K H' : AH} {o : Oper} {v : Value} (hp : isPure o.op = true) (e : aoper1 P E Q call round T H o = some (v, H')) : aoper1 P E Q call round T K o = some (v, K) := by
  unfold aoper1 aoper at e ⊢
  have pk : ∀ {r : Option Value}, pairH H r = some (v, H') → pairH K r = some (v, K) := fun {r} h => by
    obtain ⟨h1, _⟩ := pairH_some h
    rw [h1]; rfl
  cases ho : o.op <;> rw [ho] at e hp <;> first | cases hp | skip
  all_goals simp only [single_one] at e ⊢
  all_goals simp only [aop] at e ⊢
  case makeInterface =>
    split at e
    · split at e
      · cases e
      · cases e; simp only [*]
    · cases e
  case makeFunc f xs ys =>
    cases f <;> simp only at e ⊢ <;> first | (cases e; done) | skip
    split at e
    · cases e
      simp only [*]
    · cases e
  all_goals first
    | exact pk e
    | (split at e <;> first | (cases e; done) | (have e2 := pk e; clear e pk; first | exact e2 | simp only [*]))
theorem aconv_same {H H' : AH} {s d : Nat} {v r : Value} {ds : TypeDesc} (hd : E.und d = some ds) (hn : ∀ el, ds ≠ .slice el) (e : aconv P E H s d v = some (r, H')) : H' = H := by
  unfold aconv at e
  rw [hd] at e
  simp only [Bool.cond_eq_ite] at e
  repeat' split at e
  all_goals first
    | (cases e; done)
    | (cases e; rfl)
    | (rename_i h2; cases h2; exact absurd rfl (hn _))
    | (exfalso; simp_all; done)
theorem aconvP_same {H H' : AH} {s d : Nat} {v r : Value} {ds : TypeDesc} (hd : E.und d = some ds) (hn : ∀ el, ds ≠ .slice el) (e : aconvP P E H s d v = some (r, H')) : H' = H := by
  unfold aconvP at e
  simp only [Bool.cond_eq_ite] at e
  split at e
  · repeat' split at e
    all_goals first
      | (cases e; done)
      | (cases e; rfl)
  · repeat' split at e
    all_goals first
      | (cases e; done)
      | (cases e; rfl)
  · exact aconv_same hd hn e
theorem aoper_same {T : Nat → Option Value} {H H' : AH} {o : Oper} {v : Value} (hp : isReader E o.op = true) (e : aoper1 P E Q call round T H o = some (v, H')) : H' = H := by
  unfold aoper1 aoper at e
  cases ho : o.op <;> rw [ho] at e hp <;> first | (cases hp; done) | skip
  all_goals (try simp only [single_one] at e)
  all_goals (try simp only [aop] at e)
  case load t x =>
    split at e
    · exact (pairH_some e).2
    · cases e
  case lookup t x i ok =>
    split at e
    · exact (pairH_some e).2
    · cases e
  case convert s d x =>
    simp only [isReader] at hp
    split at e
    · split at hp
      · cases hp
      · rename_i ds hn hd
        exact aconvP_same hd hn e
      · cases hp
    · cases e
  case call c =>
    simp only [isReader] at hp
    split at hp
    all_goals first
      | (cases hp; done)
      | (rename_i hc
         rw [hc] at e
         simp only at e
         split at e
         · rw [single_one] at e
           simp only [abuiltin] at e
           repeat' split at e
           all_goals first | (cases e; done) | exact (pairH_some e).2 | contradiction
         · cases e)
/-- Slots that may be looked at: those that the statement does not write, those of operations that come ahead for sure, and those of operations that come later for sure, as they were. -/
def sl (dx : Tri Nat) (Al : List Nat) (i anc : Nat) (T : Nat → Option Value) (t : Nat) : Option Value := match dx.get t with
  | some k => bif anc.testBit k || (Nat.blt i k && (Al.getD k 0).testBit i) then T t else none
  | none => T t
def sf (dx : Tri Nat) (A : Nat → Nat) (i : Nat) (T0 Tf : Nat → Option Value) (t : Nat) : Option Value := match dx.get t with
  | some k => bif (A i).testBit k then Tf t else bif Nat.blt i k && (A k).testBit i then T0 t else none
  | none => Tf t
def dxOf : List Oper → Nat → Tri Nat → Tri Nat
  | [], _, D => D
  | o :: os, i, D => match o.dst with
    | some d => dxOf os (i + 1) (D.set 20 d i)
    | none => dxOf os (i + 1) D
def dxOk (dx : Tri Nat) (n : Nat) : List Oper → Nat → Bool
  | [], _ => true
  | o :: os, i => (match o.dst with
    | some d => Nat.blt d n && (match dx.get d with | some k => Nat.beq k i | none => false)
    | none => true) && dxOk dx n os (i + 1)
def ancOf (ancs : List Nat) (o : Oper) : Nat := o.after.toList.foldl (fun s e => bif Region.binds .any e then s ||| 2 ^ e.on ||| ancs.getD e.on 0 else s) 0
theorem ancOf_bit {ancs : List Nat} {o : Oper} {j : Nat} (h : (ancOf ancs o).testBit j = true) : ∃ e ∈ o.after, Region.binds .any e = true ∧ (j = e.on ∨ (ancs.getD e.on 0).testBit j = true) := by
  have key : ∀ (l : List Edge) (s : Nat), (l.foldl (fun s e => bif Region.binds .any e then s ||| 2 ^ e.on ||| ancs.getD e.on 0 else s) s).testBit j = true → s.testBit j = true ∨ ∃ e ∈ l, Region.binds .any e = true ∧ (j = e.on ∨ (ancs.getD e.on 0).testBit j = true) := by
    intro l
    induction l with
    | nil => intro s h; exact .inl h
    | cons e l ih =>
      intro s h
      rcases ih _ h with h1 | ⟨e', h1, h2⟩
      · cases hb : Region.binds .any e with
        | false => dsimp only at h1; rw [hb] at h1; exact .inl h1
        | true =>
          dsimp only at h1
          rw [hb, cond_true, Nat.testBit_or, Nat.testBit_or, Nat.testBit_two_pow] at h1
          rcases Bool.or_eq_true _ _ ▸ h1 with h1 | h1
          · rcases Bool.or_eq_true _ _ ▸ h1 with h1 | h1
            · exact .inl h1
            · exact .inr ⟨e, by simp, hb, .inl (by simpa using (of_decide_eq_true h1).symm)⟩
          · exact .inr ⟨e, by simp, hb, .inr h1⟩
      · exact .inr ⟨e', by simp [h1], h2⟩
  rcases key _ _ h with h1 | ⟨e, h1, h2⟩
  · simp at h1
  · exact ⟨e, by simpa using h1, h2⟩
def ancsOf : List Oper → List Nat → List Nat
  | [], l => l
  | o :: os, l => ancsOf os (l ++ [ancOf l o])
def eqNats : List Nat → List Nat → Bool
  | [], [] => true
  | a :: l, b :: m => Nat.beq a b && eqNats l m
  | _, _ => false
theorem eqNats_ok : ∀ l m, eqNats l m = true → l = m
  | [], [], _ => rfl
  | a :: l, b :: m, h => by
    simp only [eqNats, Bool.and_eq_true] at h
    rw [Nat.eq_of_beq_eq_true h.1, eqNats_ok l m h.2]
  | [], _ :: _, h => by cases h
  | _ :: _, [], h => by cases h
structure DEff where
  i : Nat
  before : Nat
  ups : Nat
  H : AH
  ad : List (Nat × Blk)
  H' : AH
structure DOut where
  effs : List DEff
  pend : List (Nat × Blk)
  before : Nat
  ups : Nat
  ancs : List Nat
  T : Tri Value
  H : AH
def adopt (N0 : Nat) (H : AH) (l : List (Nat × Blk)) : AH := l.foldl (fun H x => H.put (N0 + x.1) x.2) H
def passA (P : Program) (E : Env) (Q : Eqs) (call : ACall) (round : ARound) (n : Nat) (all : List Oper) (dx : Tri Nat) (Al : List Nat) (N0 : Nat) : List Oper → Nat → List Nat → Nat → Nat → List (Nat × Blk) → Tri Value → AH → Option DOut
  | [], _, ancs, m, u, pend, T, H => some ⟨[], pend, m, u, ancs, T, H⟩
  | o :: os, i, ancs, m, u, pend, T, H =>
    bif o.after.toList.all (fun e => !Region.binds .any e || Nat.blt e.on i) then (match awant all (sl dx Al i (ancOf ancs o) T.get) o with
    | some false => match aput T n o.dst undef with
      | some T' => passA P E Q call round n all dx Al N0 os (i + 1) (ancs ++ [ancOf ancs o]) m u pend T' H
      | none => none
    | some true =>
      bif isAlloc o.op then (match aallocB E (sl dx Al i (ancOf ancs o) T.get) (N0 + i) o.op with
        | some (v, b) => match aput T n o.dst v with
          | some T' => passA P E Q call round n all dx Al N0 os (i + 1) (ancs ++ [ancOf ancs o]) m u ((i, b) :: pend) T' H
          | none => none
        | none => none)
      else bif isPure o.op || isReader E o.op then (match aoper1 P E Q call round (sl dx Al i (ancOf ancs o) T.get) H o with
        | some (v, _) => match aput T n o.dst v with
          | some T' => passA P E Q call round n all dx Al N0 os (i + 1) (ancs ++ [ancOf ancs o]) m u pend T' H
          | none => none
        | none => none)
      else bif Nat.beq (ancOf ancs o &&& m) m then (match aoper1 P E Q call round (sl dx Al i (ancOf ancs o) T.get) (adopt N0 H (pend.filter fun x => (ancOf ancs o).testBit x.1)) o with
        | some (v, H') => match aput T n o.dst v with
          | some T' => match passA P E Q call round n all dx Al N0 os (i + 1) (ancs ++ [ancOf ancs o]) (m ||| 2 ^ i) (u ||| ancOf ancs o) (pend.filter fun x => !(ancOf ancs o).testBit x.1) T' H' with
            | some out => some ⟨⟨i, m, u, H, pend.filter fun x => (ancOf ancs o).testBit x.1, H'⟩ :: out.effs, out.pend, out.before, out.ups, out.ancs, out.T, out.H⟩
            | none => none
          | none => none
        | none => none)
      else none
    | none => none) else none
def veq : Nat → Value → Value → Bool
  | 0, _, _ => false
  | n + 1, u, v => match u, v with
    | .bool a, .bool b => a == b
    | .int k a, .int l b => decide (k = l) && decide (a = b)
    | .string a, .string b => beqBytes a b
    | .pointer none, .pointer none => true
    | .pointer (some ⟨k, o, none⟩), .pointer (some ⟨l, p, none⟩) => Nat.beq k l && Nat.beq o p
    | .slice none a b, .slice none c d => Nat.beq a c && Nat.beq b d
    | .slice (some ⟨k, o, none⟩) a b, .slice (some ⟨l, p, none⟩) c d => Nat.beq k l && Nat.beq o p && Nat.beq a c && Nat.beq b d
    | .map none, .map none => true
    | .map (some k), .map (some l) => Nat.beq k l
    | .nilFunc, .nilFunc => true
    | .nilIface, .nilIface => true
    | .iface t x, .iface s y => Nat.beq t s && veq n x y
    | .func (.func f) a c, .func (.func g) b d => Nat.beq f g && veqs (veq n) a.toList b.toList && veqs (veq n) c.toList d.toList
    | .func (.yield f) a c, .func (.yield g) b d => Nat.beq f g && veqs (veq n) a.toList b.toList && veqs (veq n) c.toList d.toList
    | .agg a, .agg b => veqs (veq n) a.toList b.toList
    | .tuple a, .tuple b => veqs (veq n) a.toList b.toList
    | .complex .f64 c k, .complex .f64 d l => Nat.beq c d && Nat.beq k l
    | _, _ => false
where veqs (f : Value → Value → Bool) : List Value → List Value → Bool
  | [], [] => true
  | x :: xs, y :: ys => f x y && veqs f xs ys
  | _, _ => false
theorem veqs_ok {f : Value → Value → Bool} (hf : ∀ u v, f u v = true → u = v) : ∀ l m, veq.veqs f l m = true → l = m
  | [], [], _ => rfl
  | x :: xs, y :: ys, h => by
    simp only [veq.veqs, Bool.and_eq_true] at h
    rw [hf _ _ h.1, veqs_ok hf xs ys h.2]
  | [], _ :: _, h => by cases h
  | _ :: _, [], h => by cases h
theorem veq_ok : ∀ (k : Nat) (u v : Value), veq k u v = true → u = v
  | 0, _, _, h => by cases h
  | k + 1, u, v, h => by
    have hs := veqs_ok (veq_ok k)
    unfold veq at h
    split at h
    all_goals first
      | rfl
      | (cases h; done)
      | skip
    all_goals try simp only [Bool.and_eq_true, decide_eq_true_eq, beq_iff_eq] at h
    · rw [h]
    · rw [h.1, h.2]
    · rename_i a b
      have h2 : a.data.toList = b.data.toList := eq_of_beq h
      rw [ByteArray.ext (Array.ext' h2)]
    · rw [Nat.eq_of_beq_eq_true h.1, Nat.eq_of_beq_eq_true h.2]
    · rw [Nat.eq_of_beq_eq_true h.1, Nat.eq_of_beq_eq_true h.2]
    · rw [Nat.eq_of_beq_eq_true h.1.1.1, Nat.eq_of_beq_eq_true h.1.1.2, Nat.eq_of_beq_eq_true h.1.2, Nat.eq_of_beq_eq_true h.2]
    · rw [Nat.eq_of_beq_eq_true h]
    · rw [Nat.eq_of_beq_eq_true h.1, veq_ok k _ _ h.2]
    · rw [Nat.eq_of_beq_eq_true h.1.1, Array.ext' (hs _ _ h.1.2), Array.ext' (hs _ _ h.2)]
    · rw [Nat.eq_of_beq_eq_true h.1.1, Array.ext' (hs _ _ h.1.2), Array.ext' (hs _ _ h.2)]
    · rw [Array.ext' (hs _ _ h)]
    · rw [Array.ext' (hs _ _ h)]
    · rw [Nat.eq_of_beq_eq_true h.1, Nat.eq_of_beq_eq_true h.2]
def passB (P : Program) (E : Env) (Q : Eqs) (call : ACall) (round : ARound) (all : List Oper) (dx : Tri Nat) (hs : List (Nat × Nat × AH)) (effall : Nat) (ancs : List Nat) (T0 T : Tri Value) : List Oper → Nat → Bool
  | [], _ => true
  | o :: os, i => (bif isReader E o.op then (match awant all (sf dx (fun j => ancs.getD j 0) i T0.get T.get) o with
      | some true => hs.all fun (m, u, H) => bif Nat.beq ((ancs.getD i 0 &&& effall) ||| m) m && !u.testBit i then (match aoper1 P E Q call round (sf dx (fun j => ancs.getD j 0) i T0.get T.get) H o with
          | some (v, _) => match o.dst with
            | none => true
            | some d => match T.get d with
              | some v' => veq 12 v v'
              | none => false
          | none => false) else true
      | some false => true
      | none => false) else true) && passB P E Q call round all dx hs effall ancs T0 T os (i + 1)
def distinctB : List (Nat × Blk) → Bool
  | [] => true
  | x :: l => l.all (fun y => !Nat.beq x.1 y.1) && distinctB l
def adraw (P : Program) (E : Env) (Q : Eqs) (call : ACall) (round : ARound) (n : Nat) (all : List Oper) (T : Tri Value) (H : AH) : Option (Tri Value × AH) :=
  bif dxOk (dxOf all 0 .nil) n all 0 && Nat.blt (H.next + all.length) 1099511627776 && Nat.blt n 1048575 then
    (match passA P E Q call round n all (dxOf all 0 .nil) (ancsOf all []) H.next all 0 [] 0 0 [] T ⟨H.t, H.next + all.length⟩ with
    | some out => bif eqNats out.ancs (ancsOf all []) && passB P E Q call round all (dxOf all 0 .nil) (out.effs.map (fun e => (e.before, e.ups, e.H)) ++ [(out.before, out.ups, out.H)]) out.before out.ancs T out.T all 0 && distinctB (out.effs.flatMap (·.ad) ++ out.pend)
        then some (out.T, adopt H.next out.H out.pend) else none
    | none => none) else none
end
end AM
end Go.Proofs.YtoicnghjjgkebaaGreatDoor
