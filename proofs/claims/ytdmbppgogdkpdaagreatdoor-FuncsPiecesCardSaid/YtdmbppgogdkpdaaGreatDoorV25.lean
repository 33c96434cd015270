/-
  The abstract machine: blocks that are laid ahead of their turn. No condition.
  The abstract machine: the operations of a statement whose order is drawn: what is computed. No condition.
  The abstract machine: the operations of a statement whose order is drawn: what was computed of them. No condition.
  The abstract machine: the operations of a statement whose order is drawn: whichever order comes. No condition.
  The abstract machine: the operations of a statement whose order is drawn: they end as was computed. No condition.
  The abstract machine: statements, and code but for ranges over functions. No condition.
-/
import Derived.Test.YtdmbppgogdkpdaaGreatDoorV19
import Derived.LoopNIn
set_option linter.unusedSectionVars false
namespace Go.Proofs.YtdmbppgogdkpdaaGreatDoor
namespace AM
open Go.RowKit
variable [Toks]

section
variable {P : Program} {E : Env} {Q : Eqs} {μ : Mp} {H : AH} {w : World} {T : Nat → Option Value} {a : Act}
/-- A base that keeps more. -/
structure Under (b0 b : Base) : Prop where
  os : b.w.os = b0.w.os
  tape : b.w.tape = b0.w.tape
  output : b.w.output = b0.w.output
  size : b0.w.heap.size ≤ b.w.heap.size
  keep : ∀ g, b0.B g → b.w.heap[g]? = b0.w.heap[g]?
  sub : ∀ g, b0.B g → b.B g
  L : b.L = b0.L
theorem Under.refl (b : Base) : Under b b := ⟨rfl, rfl, rfl, Nat.le_refl _, fun _ _ => rfl, fun _ h => h, rfl⟩
theorem Rel.back {b0 b : Base} (h : Rel μ H b w) (u : Under b0 b) : Rel μ H b0 w :=
  ⟨h.os.trans u.os, h.tape.trans u.tape, h.output.trans u.output, Nat.le_trans u.size h.size, fun g hg => (h.keep g (u.sub g hg)).trans (u.keep g hg), h.small, h.num,
   fun k c hk => let ⟨g, s, h1, h2, h3⟩ := h.lies k c hk; ⟨g, s, h1, h2, fun ho hB => h3 ho (u.sub g hB)⟩, h.apart, fun k c hk hl ho g s e => by rw [← u.L]; exact h.ro k c hk hl ho g s e⟩
/-- The mapping of a number that had none. -/
def Mp.at (μ : Mp) (id : Nat) (l : Nat × Nat) (hid : id < μ.N) (h0 : μ.f id = none) : Mp := ⟨fun k => if k = id then some l else μ k, μ.N, fun k hk => by
  show (if k = id then _ else _) = _
  rw [if_neg (by omega)]; exact μ.wf k hk, fun k hk => by
  show ∃ s', (if k = id then _ else _) = _
  rw [if_neg (fun (e : k = id) => μ.glob_lt (k := k) (by rw [e]; exact h0) hk)]; exact μ.gl k hk⟩
theorem Mp.at_self (μ : Mp) (id : Nat) (l : Nat × Nat) (hid : id < μ.N) (h0 : μ.f id = none) : (μ.at id l hid h0) id = some l := if_pos rfl
theorem Mp.at_ne (μ : Mp) {id k : Nat} (l : Nat × Nat) (hid : id < μ.N) (h0 : μ.f id = none) (hk : k ≠ id) : (μ.at id l hid h0) k = μ k := if_neg hk
theorem Mp.at_sub (μ : Mp) {id : Nat} (l : Nat × Nat) (hid : id < μ.N) (h0 : μ.f id = none) : μ.sub (μ.at id l hid h0) := fun k m e => by
  rw [Mp.at_ne μ l hid h0 (by rintro rfl; rw [show μ.f k = none from h0] at e; cases e)]; exact e
theorem Rel.remap {b : Base} (h : Rel μ H b w) {id : Nat} {l : Nat × Nat} (hid : id < μ.N) (h0 : μ.f id = none) : Rel (μ.at id l hid h0) H b w := by
  have hs := Mp.at_sub μ l hid h0
  have key : ∀ k c, H.t.get k = some c → (μ.at id l hid h0) k = μ k := fun k c hk => by
    obtain ⟨g, s, h1, _⟩ := h.lies k c hk
    rw [h1]; exact hs _ _ h1
  refine ⟨h.os, h.tape, h.output, h.size, h.keep, h.small, h.num, ?_, ?_, ?_⟩
  · intro k c hk
    obtain ⟨g, s, h1, h2, h3⟩ := h.lies k c hk
    exact ⟨g, s, hs _ _ h1, fun hl => let ⟨o, h4, h5⟩ := h2 hl; ⟨o, h4, h5.monoS hs⟩, h3⟩
  · intro k j c d hk hj hne ho hl g s g' s' e1 e2
    rw [key k c hk] at e1
    rw [key j d hj] at e2
    exact h.apart k j c d hk hj hne ho hl g s g' s' e1 e2
  · intro k c hk hl ho g s e1
    rw [key k c hk] at e1
    exact h.ro k c hk hl ho g s e1
/-- A base that keeps one block more: the one that is just laid. -/
def Base.lay (b : Base) (w : World) (o : Obj) (h : b.w.heap.size ≤ w.heap.size) : Base := ⟨w.alloc o, fun g => b.B g ∨ g = w.heap.size, b.L,
  fun g hg => by
    have hz : (w.alloc o).heap.size = w.heap.size + 1 := by simp
    rcases hg with hg | hg
    · have := b.bound g hg; omega
    · omega,
  fun g hg => by
    have hz : (w.alloc o).heap.size = w.heap.size + 1 := by simp
    have := b.lbound g hg; omega⟩
theorem Rel.low {b : Base} (h : Rel μ H b w) {k : Nat} {c : Blk} (hk : H.t.get k = some c) (hl : c.live = true) {g s : Nat} (e : μ k = some (g, s)) : g < w.heap.size := by
  obtain ⟨g', s', e', l1, _⟩ := h.lies k c hk
  rw [e] at e'; cases e'
  obtain ⟨o', ho, _⟩ := l1 hl
  exact (Array.getElem?_eq_some_iff.1 ho).1
theorem Rel.lay {b : Base} (h : Rel μ H b w) (o : Obj) : Rel μ H (b.lay w o h.size) (w.alloc o) := by
  refine ⟨rfl, rfl, rfl, Nat.le_refl _, fun g _ => rfl, h.small, h.num, ?_, h.apart, h.ro⟩
  intro k c hk
  obtain ⟨g, s, h1, h2, h3⟩ := h.lies k c hk
  refine ⟨g, s, h1, fun hl => ?_, fun ho hB => ?_⟩
  · obtain ⟨o', h4, h5⟩ := h2 hl
    exact ⟨o', by rw [Below.heap_alloc _ _ _ (h.low hk hl h1)]; exact h4, h5⟩
  · rcases hB with hB | hB
    · exact h3 ho hB
    · have := h.low hk (Blk.live_own ho) h1
      omega
theorem Under.lay {b0 b : Base} (u : Under b0 b) (h : Rel μ H b w) (o : Obj) : Under b0 (b.lay w o h.size) where
  os := h.os.trans u.os
  tape := h.tape.trans u.tape
  output := h.output.trans u.output
  size := Nat.le_trans u.size (Nat.le_trans h.size (by show w.heap.size ≤ (w.alloc o).heap.size; simp))
  keep := fun g hg => by
    have hlt : g < w.heap.size := Nat.lt_of_lt_of_le (b.bound g (u.sub g hg)) h.size
    show (w.alloc o).heap[g]? = _
    rw [Below.heap_alloc _ _ _ hlt, h.keep g (u.sub g hg)]; exact u.keep g hg
  sub := fun g hg => .inl (u.sub g hg)
  L := u.L
/-- A block that was kept comes into its own. -/
def Base.free (b : Base) (g : Nat) : Base := ⟨b.w, fun j => b.B j ∧ j ≠ g, b.L, fun j hj => b.bound j hj.1, b.lbound⟩
theorem Under.free {b0 b : Base} (u : Under b0 b) {g : Nat} (hg : ¬ b0.B g) : Under b0 (b.free g) := ⟨u.os, u.tape, u.output, u.size, u.keep, fun j hj => ⟨u.sub j hj, by rintro rfl; exact hg hj⟩, u.L⟩
theorem Rel.adopt {b : Base} (h : Rel μ H b w) {id g s : Nat} {o : Obj} {c : Blk} (hid : id < H.next) (hm : μ id = some (g, s)) (ho : w.heap[g]? = some o) (hr : BlkR μ s c o) (hc : c.own = true) (hB : b.B g) (hL : ¬ b.L g) :
    Rel μ (H.put id c) (b.free g) w := by
  refine ⟨h.os, h.tape, h.output, h.size, fun j hj => h.keep j hj.1, h.small, h.num, ?_, ?_, ?_⟩
  · intro k d hk
    rw [h.get_put hid] at hk
    by_cases e : k = id
    · rw [if_pos e] at hk; cases hk
      subst e
      exact ⟨g, s, hm, fun _ => ⟨o, ho, hr⟩, fun _ hx => hx.2 rfl⟩
    · rw [if_neg e] at hk
      obtain ⟨g1, s1, h1, h2, h3⟩ := h.lies k d hk
      exact ⟨g1, s1, h1, h2, fun ho hx => h3 ho hx.1⟩
  · have key : ∀ j d, H.t.get j = some d → d.live = true → ∀ g2 s2, μ j = some (g2, s2) → g ≠ g2 := by
      intro j d hj hl g2 s2 e2 eg
      subst eg
      cases hd : d.own with
      | true =>
        obtain ⟨g1, s1, h1, _, h3⟩ := h.lies j d hj
        rw [e2] at h1; cases h1
        exact h3 hd hB
      | false => exact hL (h.ro j d hj hl hd _ _ e2)
    intro k j d f hk hj hne hown hlive g1 s1 g2 s2 e1 e2
    rw [h.get_put hid] at hk hj
    by_cases e : k = id
    · rw [if_pos e] at hk; cases hk
      subst e
      rw [hm] at e1; cases e1
      rw [if_neg (fun e' => hne e'.symm)] at hj
      exact key j f hj hlive g2 s2 e2
    · rw [if_neg e] at hk
      by_cases e' : j = id
      · subst e'
        rw [hm] at e2; cases e2
        exact fun eg => key k d hk (Blk.live_own hown) g1 s1 e1 eg.symm
      · rw [if_neg e'] at hj
        exact h.apart k j d f hk hj hne hown hlive g1 s1 g2 s2 e1 e2
  · intro k d hk hl hd g1 s1 e1
    rw [h.get_put hid] at hk
    by_cases e : k = id
    · rw [if_pos e] at hk; cases hk; rw [hc] at hd; cases hd
    · rw [if_neg e] at hk
      exact h.ro k d hk hl hd g1 s1 e1
/-- What allocates. -/
def isAlloc : Op → Bool
  | .alloc _ | .box .. | .buildSlice .. | .makeMap .. | .makeSlice .. => true
  | _ => false
def abuildRow (E : Env) (t len : Nat) (ps : List (Nat × Value)) : Option (List Value × Nat) := match E.und t with
  | some (.slice el) => match E.info el with
    | some i => match i.zero with
      | some z =>
        let l := arep (bif Nat.beq (len * i.size) 0 then #[] else z.cells) (len * i.size)
        bif l.all (cval 6) && Nat.ble (len * i.size) 1048576 then (match afill (fun k => some (k * i.size, i.size)) l ps with
          | some r => some (r, el)
          | none => none) else none
      | none => none
    | none => none
  | _ => none
theorem abuildRow_ok (hE : E.Ok P) {t len : Nat} {ps : List (Nat × Value)} {ps' : Array (Nat × Value)} {r : List Value} {el : Nat} (hp : PR μ ps ps'.toList) (e : abuildRow E t len ps = some (r, el)) :
    ∃ r' : Array Value, LR μ r r'.toList ∧ (Instr.buildSlice t len ps').run P w = (do pure (.slice (some (← newRow el r')) len len) : Sem Value).run P w := by
  unfold abuildRow at e
  split at e
  · rename_i el hu
    split at e
    · rename_i i hi
      split at e
      · rename_i z hz
        dsimp only at e
        cases hc : ((arep (bif Nat.beq (len * i.size) 0 then #[] else z.cells) (len * i.size)).all (cval 6) && Nat.ble (len * i.size) 1048576) with
        | false => rw [hc] at e; cases e
        | true =>
          rw [hc, cond_true] at e
          rw [Bool.and_eq_true] at hc
          have hle := Nat.le_of_ble_eq_true hc.2
          split at e
          · rename_i r0 hr
            cases e
            obtain ⟨r', h1, h2⟩ := afill_ok (place' := fun k => some (k * i.size, i.size)) (fun k => rfl) ps ps'.toList _ _ ((Array.range (len * i.size)).map ((bif Nat.beq (len * i.size) 0 then #[] else z.cells)[· % (bif Nat.beq (len * i.size) 0 then #[] else z.cells).size]!)) hp (by rw [arep_eq]; exact LR.refl_of hc.1) hr
            refine ⟨r', h2, ?_⟩
            simp only [Instr.buildSlice, Sem.run_bind, run_und hE hu, run_size hE hi, Result.andThen_ok]
            rw [if_neg (by omega)]
            by_cases h0 : len * i.size = 0
            · rw [h0] at h1
              simp only [show Nat.beq 0 0 = true from rfl, cond_true] at h1
              rw [if_pos h0, h0]
              simp only [Sem.run_bind, Sem.run_pure, Result.andThen_ok, h1]
            · rw [beq_ne h0, cond_false] at h1
              rw [if_neg h0]
              simp only [Sem.run_bind, run_zero hE hi hz, Result.andThen_ok, Sem.run_pure, h1]
          · cases e
      · cases e
    · cases e
  · cases e
def amakeRow (E : Env) (t : Nat) : Value → Value → Option (List Value × Nat × Nat × Nat)
  | .int _ L, .int _ C => match E.und t with
    | some (.slice el) => match E.info el with
      | some i => match i.zero with
        | some z =>
          if 0 ≤ L ∧ L ≤ C ∧ C ≤ 1048576 ∧ i.bytes ≤ 1048576 then
            let l := arep (bif Nat.beq (C.toNat * i.size) 0 then #[] else z.cells) (C.toNat * i.size)
            bif l.all (cval 6) then some (l, el, L.toNat, C.toNat) else none
          else none
        | none => none
      | none => none
    | _ => none
  | _, _ => none
theorem amakeRow_ok (hE : E.Ok P) {t : Nat} {x x' y y' : Value} {r : List Value} {el L0 C0 : Nat} (hx : VR μ x x') (hy : VR μ y y') (e : amakeRow E t x y = some (r, el, L0, C0)) :
    ∃ r' : Array Value, LR μ r r'.toList ∧ (Instr.makeSlice t x' y').run P w = (do pure (.slice (some (← newRow el r')) L0 C0) : Sem Value).run P w := by
  unfold amakeRow at e
  split at e
  · rename_i k1 L k2 C
    cases hx; cases hy
    split at e
    · rename_i el hu
      split at e
      · rename_i i hi
        split at e
        · rename_i z hz
          split at e
          · rename_i hb
            obtain ⟨b1, b2, b3, b4⟩ := hb
            dsimp only at e
            cases hc : (arep (bif Nat.beq (C.toNat * i.size) 0 then #[] else z.cells) (C.toNat * i.size)).all (cval 6) with
            | false => rw [hc] at e; cases e
            | true =>
              rw [hc, cond_true] at e
              cases e
              obtain ⟨n, rfl⟩ : ∃ n : Nat, C = n := ⟨C.toNat, by omega⟩
              simp only [Int.toNat_natCast] at *
              have hmul : (i.bytes : Int) * (n : Int) ≤ 2 ^ 48 := by
                have h1 : i.bytes * n ≤ 1048576 * 1048576 := Nat.mul_le_mul b4 (by omega)
                have : ((i.bytes * n : Nat) : Int) ≤ 1099511627776 := by omega
                rw [Int.natCast_mul] at this
                omega
              refine ⟨(Array.range (n * i.size)).map ((bif Nat.beq (n * i.size) 0 then #[] else z.cells)[· % (bif Nat.beq (n * i.size) 0 then #[] else z.cells).size]!), by rw [arep_eq]; exact LR.refl_of hc, ?_⟩
              have w1 : IntKind.i64.wrap L = L := wrap_small b1 (by omega)
              have w2 : IntKind.i64.wrap (n : Int) = n := wrap_small (by omega) (by omega)
              simp only [Instr.makeSlice, asInt, asIntOf, Sem.run_bind, run_und hE hu, run_info hE hi, run_size hE hi, Result.andThen_ok, Sem.run_pure, w1, w2]
              rw [if_neg (by simp; omega)]
              simp only [Sem.run_bind, run_askRoom, Result.andThen_ok, Int.toNat_natCast, run_size hE hi]
              by_cases h0 : n * i.size = 0
              · rw [if_pos h0, h0]
                simp only [Sem.run_bind, Sem.run_pure, Result.andThen_ok]
                rfl
              · rw [if_neg h0, beq_ne h0]
                simp only [Sem.run_bind, run_zero hE hi hz, Result.andThen_ok, Sem.run_pure, cond_false]
          · cases e
        · cases e
      · cases e
    · cases e
  · cases e
def aallocB (E : Env) (T : Nat → Option Value) (id : Nat) : Op → Option (Value × Blk)
  | .alloc e => match E.info e with
    | some i => match i.zero with
      | some z => bif z.cells.toList.all (cval 6) then some (.pointer (some ⟨id, 0, none⟩), .cells z.cells.toList e true true) else none
      | none => none
    | none => none
  | .box e x => match aeval T x with
    | some v => some (.pointer (some ⟨id, 0, none⟩), .cells v.cells.toList e true true)
    | none => none
  | .buildSlice t n ps => match aparts T ps.toList with
    | some l => match abuildRow E t n l with
      | some (r, el) => bif Nat.blt n big then some (.slice (some ⟨id, 0, none⟩) n n, .cells r el true true) else none
      | none => none
    | none => none
  | .makeSlice t x y => match aeval T x, aeval T y with
    | some v, some u => match amakeRow E t v u with
      | some (r, el, L, C) => bif Nat.blt C big then some (.slice (some ⟨id, 0, none⟩) L C, .cells r el true true) else none
      | none => none
    | _, _ => none
  | .makeMap t r => match aopt T r with
    | some none => some (.map (some id), .map [] 0)
    | some (some (.int _ _)) => match E.und t with
      | some (.map _ _) => some (.map (some id), .map [] 0)
      | _ => none
    | _ => none
  | _ => none
theorem newCells {t : Nat} {c : List Value} {c' : Array Value} (hc : LR μ c c'.toList) : BlkR μ c'.size (.cells c t true true) (.cells c' t) :=
  ⟨c', (0, 0), t, rfl, rfl, fun _ => ⟨rfl, .inl rfl⟩, fun _ => by have := hc.1; simp at this; omega, by have := hc.1; simp at this; omega, fun i u hu => by
    have hi : i < c.length := by
      rcases Nat.lt_or_ge i c.length with k | k
      · exact k
      · rw [List.getElem?_eq_none k] at hu; cases hu
    have hi' : i < c'.size := by have := hc.1; simp at this; omega
    exact ⟨c'[i], Array.getElem?_eq_getElem hi', hc.2 i u _ hu (by simp [hi'])⟩⟩
theorem aallocB_ok (hE : E.Ok P) (ht : TR μ T a.tmps) {o : Oper} {id : Nat} {v : Value} {b : Blk} (e : aallocB E T id o.op = some (v, b)) :
    b.own = true ∧ (∀ c, o.op ≠ .defer c) ∧ ∃ ob s v', (execOp a.eval o).run P w = .ok (.value v') (w.alloc ob) ∧ BlkR μ s b ob ∧ ∀ ν : Mp, ν id = some (w.heap.size, s) → VR ν v v' := by
  have ev := fun {x : Operand} {v : Value} (e : aeval T x = some v) => aeval_ok ht e
  unfold execOp
  cases ho : o.op <;> rw [ho] at e <;> simp only [aallocB] at e <;> dsimp only
  case alloc t =>
    split at e
    · rename_i i hi
      split at e
      · rename_i z hz
        cases hb : z.cells.toList.all (cval 6) with
        | false => rw [hb] at e; cases e
        | true =>
          rw [hb, cond_true] at e
          cases e
          refine ⟨rfl, (fun c hc => by cases hc), .cells z.cells t, z.cells.size, .pointer (some ⟨w.heap.size, 0, none⟩), ?_, newCells (LR.refl_of hb), fun ν hν => .ptr 0 hν⟩
          simp only [Instr.alloc, Sem.run_bind, run_zero hE hi hz, Result.andThen_ok, newVar, newRow, newObj, Sem.run, Sem.run_pure]
          rfl
      · cases e
    · cases e
  case box t x =>
    split at e
    · rename_i u hu
      cases e
      refine ⟨rfl, (fun c hc => by cases hc), .cells (a.eval x).cells t, (a.eval x).cells.size, .pointer (some ⟨w.heap.size, 0, none⟩), ?_, newCells (ev hu).cells, fun ν hν => .ptr 0 hν⟩
      simp only [Sem.run_bind]
      rfl
    · cases e
  case buildSlice t n ps =>
    split at e
    · rename_i l hl
      split at e
      · rename_i r el hr
        cases hb : Nat.blt n big with
        | false => rw [hb] at e; cases e
        | true =>
          rw [hb, cond_true] at e
          cases e
          obtain ⟨r', h1, h2⟩ := abuildRow_ok (w := w) hE (aparts_ok ht _ l hl).map hr
          refine ⟨rfl, (fun c hc => by cases hc), .cells r' el, r'.size, .slice (some ⟨w.heap.size, 0, none⟩) n n, ?_, newCells h1, fun ν hν => .sl 0 n n hν (Nat.le_of_ble_eq_true hb)⟩
          simp only [Sem.run_bind, h2, Result.andThen_ok, newRow, newObj, Sem.run, Sem.run_pure]
          rfl
      · cases e
    · cases e
  case makeSlice t x y =>
    split at e
    · rename_i v1 u1 h1 h2
      split at e
      · rename_i r el L C hr
        cases hb : Nat.blt C big with
        | false => rw [hb] at e; cases e
        | true =>
          rw [hb, cond_true] at e
          cases e
          obtain ⟨r', h3, h4⟩ := amakeRow_ok (w := w) hE (ev h1) (ev h2) hr
          refine ⟨rfl, (fun c hc => by cases hc), .cells r' el, r'.size, .slice (some ⟨w.heap.size, 0, none⟩) L C, ?_, newCells h3, fun ν hν => .sl 0 L C hν (Nat.le_of_ble_eq_true hb)⟩
          simp only [Sem.run_bind, h4, Result.andThen_ok, newRow, newObj, Sem.run, Sem.run_pure]
          rfl
      · cases e
    · cases e
  case makeMap t r =>
    split at e
    · rename_i hr
      have := aopt_ok ht hr
      cases r with
      | none =>
        cases e
        refine ⟨rfl, (fun c hc => by cases hc), .map #[] 0, 0, .map (some w.heap.size), ?_, ⟨#[], rfl, rfl, by simp⟩, fun ν hν => .map hν⟩
        simp only [Option.map_none, Instr.makeMap, newObj, Sem.run_bind, Sem.run_pure, Sem.run, Result.andThen_ok]; rfl
      | some x => exact this.elim
    · rename_i k n hr
      have hr2 := aopt_ok ht hr
      cases r with
      | none => exact hr2.elim
      | some x =>
        split at e
        · rename_i ka kb hu
          simp only [OR, Option.map_some] at hr2
          have hx : a.eval x = .int k n := by generalize a.eval x = av at hr2; cases hr2; rfl
          cases e
          refine ⟨rfl, (fun c hc => by cases hc), .map #[] 0, 0, .map (some w.heap.size), ?_, ⟨#[], rfl, rfl, by simp⟩, fun ν hν => .map hν⟩
          simp only [Option.map_some, hx, Instr.makeMap, newObj, Sem.run_bind, Sem.run_pure, Sem.run, Result.andThen_ok, run_und hE hu, asInt, asIntOf]; rfl
        · cases e
    · cases e
  all_goals cases e
end
end AM
end Go.Proofs.YtdmbppgogdkpdaaGreatDoor
namespace Go.Proofs.YtdmbppgogdkpdaaGreatDoor
namespace AM
open Go.RowKit
variable [Toks]

section
variable {P : Program} {E : Env} {Q : Eqs} {call : ACall} {round : ARound} {n : Nat}
/-- Those that ask nothing of memory. -/
def isPure : Op → Bool
  | .move _ | .assign _ | .pick .. | .build .. | .nilCheck _ | .binOp .. | .unOp .. | .makeInterface .. | .makeFunc .. | .slice .. | .fieldAddr .. | .field .. | .indexAddr .. | .index .. | .extract .. | .typeAssert .. => true
  | _ => false
/-- Those that only read. -/
def isReader (E : Env) : Op → Bool
  | .load .. | .lookup .. => true
  | .convert _ d _ => match E.und d with
    | some (.slice _) => false
    | some _ => true
    | none => false
  | .call c => match c.callee with
    | .builtin .len | .builtin .max | .builtin .min => true
    | _ => false
  | _ => false
theorem aoper_pure {T : Nat → Option Value} {H K H' : AH} {o : Oper} {v : Value} (hp : isPure o.op = true) (e : aoper1 P E Q call round T H o = some (v, H')) : aoper1 P E Q call round T K o = some (v, K) := by
  unfold aoper1 aoper at e ⊢
  have pk : ∀ {r : Option Value}, pairH H r = some (v, H') → pairH K r = some (v, K) := fun {r} h => by
    obtain ⟨h1, _⟩ := pairH_some h
    rw [h1]; rfl
  cases ho : o.op <;> rw [ho] at e hp <;> first | cases hp | skip
  all_goals simp only [single_one] at e ⊢
  all_goals simp only [aop] at e ⊢
  case makeInterface =>
    split at e
    · split at e
      · cases e
      · cases e; simp only [*]
    · cases e
  case makeFunc f xs ys =>
    cases f <;> simp only at e ⊢ <;> first | (cases e; done) | skip
    split at e
    · cases e
      simp only [*]
    · cases e
  all_goals first
    | exact pk e
    | (split at e <;> first | (cases e; done) | (have e2 := pk e; clear e pk; first | exact e2 | simp only [*]))
theorem aconv_same {H H' : AH} {s d : Nat} {v r : Value} {ds : TypeDesc} (hd : E.und d = some ds) (hn : ∀ el, ds ≠ .slice el) (e : aconv P E H s d v = some (r, H')) : H' = H := by
  unfold aconv at e
  rw [hd] at e
  simp only [Bool.cond_eq_ite] at e
  repeat' split at e
  all_goals first
    | (cases e; done)
    | (cases e; rfl)
    | (rename_i h2; cases h2; exact absurd rfl (hn _))
    | (exfalso; simp_all; done)
theorem aconvP_same {H H' : AH} {s d : Nat} {v r : Value} {ds : TypeDesc} (hd : E.und d = some ds) (hn : ∀ el, ds ≠ .slice el) (e : aconvP P E H s d v = some (r, H')) : H' = H := by
  unfold aconvP at e
  simp only [Bool.cond_eq_ite] at e
  split at e
  · repeat' split at e
    all_goals first
      | (cases e; done)
      | (cases e; rfl)
  · repeat' split at e
    all_goals first
      | (cases e; done)
      | (cases e; rfl)
  · exact aconv_same hd hn e
theorem aoper_same {T : Nat → Option Value} {H H' : AH} {o : Oper} {v : Value} (hp : isReader E o.op = true) (e : aoper1 P E Q call round T H o = some (v, H')) : H' = H := by
  unfold aoper1 aoper at e
  cases ho : o.op <;> rw [ho] at e hp <;> first | (cases hp; done) | skip
  all_goals (try simp only [single_one] at e)
  all_goals (try simp only [aop] at e)
  case load t x =>
    split at e
    · exact (pairH_some e).2
    · cases e
  case lookup t x i ok =>
    split at e
    · exact (pairH_some e).2
    · cases e
  case convert s d x =>
    simp only [isReader] at hp
    split at e
    · split at hp
      · cases hp
      · rename_i ds hn hd
        exact aconvP_same hd hn e
      · cases hp
    · cases e
  case call c =>
    simp only [isReader] at hp
    split at hp
    all_goals first
      | (cases hp; done)
      | (rename_i hc
         rw [hc] at e
         simp only at e
         split at e
         · rw [single_one] at e
           simp only [abuiltin] at e
           repeat' split at e
           all_goals first | (cases e; done) | exact (pairH_some e).2 | contradiction
         · cases e)
/-- Slots that may be looked at: those that the statement does not write, those of operations that come ahead for sure, and those of operations that come later for sure, as they were. -/
def sl (dx : Tri Nat) (Al : List Nat) (i anc : Nat) (T : Nat → Option Value) (t : Nat) : Option Value := match dx.get t with
  | some k => bif anc.testBit k || (Nat.blt i k && (Al.getD k 0).testBit i) then T t else none
  | none => T t
def sf (dx : Tri Nat) (A : Nat → Nat) (i : Nat) (T0 Tf : Nat → Option Value) (t : Nat) : Option Value := match dx.get t with
  | some k => bif (A i).testBit k then Tf t else bif Nat.blt i k && (A k).testBit i then T0 t else none
  | none => Tf t
def dxOf : List Oper → Nat → Tri Nat → Tri Nat
  | [], _, D => D
  | o :: os, i, D => match o.dst with
    | some d => dxOf os (i + 1) (D.set 20 d i)
    | none => dxOf os (i + 1) D
def dxOk (dx : Tri Nat) (n : Nat) : List Oper → Nat → Bool
  | [], _ => true
  | o :: os, i => (match o.dst with
    | some d => Nat.blt d n && (match dx.get d with | some k => Nat.beq k i | none => false)
    | none => true) && dxOk dx n os (i + 1)
def ancOf (ancs : List Nat) (o : Oper) : Nat := o.after.toList.foldl (fun s e => bif Region.binds .any e then s ||| 2 ^ e.on ||| ancs.getD e.on 0 else s) 0
theorem ancOf_bit {ancs : List Nat} {o : Oper} {j : Nat} (h : (ancOf ancs o).testBit j = true) : ∃ e ∈ o.after, Region.binds .any e = true ∧ (j = e.on ∨ (ancs.getD e.on 0).testBit j = true) := by
  have key : ∀ (l : List Edge) (s : Nat), (l.foldl (fun s e => bif Region.binds .any e then s ||| 2 ^ e.on ||| ancs.getD e.on 0 else s) s).testBit j = true → s.testBit j = true ∨ ∃ e ∈ l, Region.binds .any e = true ∧ (j = e.on ∨ (ancs.getD e.on 0).testBit j = true) := by
    intro l
    induction l with
    | nil => intro s h; exact .inl h
    | cons e l ih =>
      intro s h
      rcases ih _ h with h1 | ⟨e', h1, h2⟩
      · cases hb : Region.binds .any e with
        | false => dsimp only at h1; rw [hb] at h1; exact .inl h1
        | true =>
          dsimp only at h1
          rw [hb, cond_true, Nat.testBit_or, Nat.testBit_or, Nat.testBit_two_pow] at h1
          rcases Bool.or_eq_true _ _ ▸ h1 with h1 | h1
          · rcases Bool.or_eq_true _ _ ▸ h1 with h1 | h1
            · exact .inl h1
            · exact .inr ⟨e, by simp, hb, .inl (by simpa using (of_decide_eq_true h1).symm)⟩
          · exact .inr ⟨e, by simp, hb, .inr h1⟩
      · exact .inr ⟨e', by simp [h1], h2⟩
  rcases key _ _ h with h1 | ⟨e, h1, h2⟩
  · simp at h1
  · exact ⟨e, by simpa using h1, h2⟩
def ancsOf : List Oper → List Nat → List Nat
  | [], l => l
  | o :: os, l => ancsOf os (l ++ [ancOf l o])
def eqNats : List Nat → List Nat → Bool
  | [], [] => true
  | a :: l, b :: m => Nat.beq a b && eqNats l m
  | _, _ => false
theorem eqNats_ok : ∀ l m, eqNats l m = true → l = m
  | [], [], _ => rfl
  | a :: l, b :: m, h => by
    simp only [eqNats, Bool.and_eq_true] at h
    rw [Nat.eq_of_beq_eq_true h.1, eqNats_ok l m h.2]
  | [], _ :: _, h => by cases h
  | _ :: _, [], h => by cases h
structure DEff where
  i : Nat
  before : Nat
  ups : Nat
  H : AH
  ad : List (Nat × Blk)
  H' : AH
structure DOut where
  effs : List DEff
  pend : List (Nat × Blk)
  before : Nat
  ups : Nat
  ancs : List Nat
  T : Tri Value
  H : AH
def adopt (N0 : Nat) (H : AH) (l : List (Nat × Blk)) : AH := l.foldl (fun H x => H.put (N0 + x.1) x.2) H
def passA (P : Program) (E : Env) (Q : Eqs) (call : ACall) (round : ARound) (n : Nat) (all : List Oper) (dx : Tri Nat) (Al : List Nat) (N0 : Nat) : List Oper → Nat → List Nat → Nat → Nat → List (Nat × Blk) → Tri Value → AH → Option DOut
  | [], _, ancs, m, u, pend, T, H => some ⟨[], pend, m, u, ancs, T, H⟩
  | o :: os, i, ancs, m, u, pend, T, H =>
    bif o.after.toList.all (fun e => !Region.binds .any e || Nat.blt e.on i) then (match awant all (sl dx Al i (ancOf ancs o) T.get) o with
    | some false => match aput T n o.dst undef with
      | some T' => passA P E Q call round n all dx Al N0 os (i + 1) (ancs ++ [ancOf ancs o]) m u pend T' H
      | none => none
    | some true =>
      bif isAlloc o.op then (match aallocB E (sl dx Al i (ancOf ancs o) T.get) (N0 + i) o.op with
        | some (v, b) => match aput T n o.dst v with
          | some T' => passA P E Q call round n all dx Al N0 os (i + 1) (ancs ++ [ancOf ancs o]) m u ((i, b) :: pend) T' H
          | none => none
        | none => none)
      else bif isPure o.op || isReader E o.op then (match aoper1 P E Q call round (sl dx Al i (ancOf ancs o) T.get) H o with
        | some (v, _) => match aput T n o.dst v with
          | some T' => passA P E Q call round n all dx Al N0 os (i + 1) (ancs ++ [ancOf ancs o]) m u pend T' H
          | none => none
        | none => none)
      else bif Nat.beq (ancOf ancs o &&& m) m then (match aoper1 P E Q call round (sl dx Al i (ancOf ancs o) T.get) (adopt N0 H (pend.filter fun x => (ancOf ancs o).testBit x.1)) o with
        | some (v, H') => match aput T n o.dst v with
          | some T' => match passA P E Q call round n all dx Al N0 os (i + 1) (ancs ++ [ancOf ancs o]) (m ||| 2 ^ i) (u ||| ancOf ancs o) (pend.filter fun x => !(ancOf ancs o).testBit x.1) T' H' with
            | some out => some ⟨⟨i, m, u, H, pend.filter fun x => (ancOf ancs o).testBit x.1, H'⟩ :: out.effs, out.pend, out.before, out.ups, out.ancs, out.T, out.H⟩
            | none => none
          | none => none
        | none => none)
      else none
    | none => none) else none
def veq : Nat → Value → Value → Bool
  | 0, _, _ => false
  | n + 1, u, v => match u, v with
    | .bool a, .bool b => a == b
    | .int k a, .int l b => decide (k = l) && decide (a = b)
    | .string a, .string b => beqBytes a b
    | .pointer none, .pointer none => true
    | .pointer (some ⟨k, o, none⟩), .pointer (some ⟨l, p, none⟩) => Nat.beq k l && Nat.beq o p
    | .slice none a b, .slice none c d => Nat.beq a c && Nat.beq b d
    | .slice (some ⟨k, o, none⟩) a b, .slice (some ⟨l, p, none⟩) c d => Nat.beq k l && Nat.beq o p && Nat.beq a c && Nat.beq b d
    | .map none, .map none => true
    | .map (some k), .map (some l) => Nat.beq k l
    | .nilFunc, .nilFunc => true
    | .nilIface, .nilIface => true
    | .iface t x, .iface s y => Nat.beq t s && veq n x y
    | .func (.func f) a c, .func (.func g) b d => Nat.beq f g && veqs (veq n) a.toList b.toList && veqs (veq n) c.toList d.toList
    | .func (.yield f) a c, .func (.yield g) b d => Nat.beq f g && veqs (veq n) a.toList b.toList && veqs (veq n) c.toList d.toList
    | .agg a, .agg b => veqs (veq n) a.toList b.toList
    | .tuple a, .tuple b => veqs (veq n) a.toList b.toList
    | .complex .f64 c k, .complex .f64 d l => Nat.beq c d && Nat.beq k l
    | _, _ => false
where veqs (f : Value → Value → Bool) : List Value → List Value → Bool
  | [], [] => true
  | x :: xs, y :: ys => f x y && veqs f xs ys
  | _, _ => false
theorem veqs_ok {f : Value → Value → Bool} (hf : ∀ u v, f u v = true → u = v) : ∀ l m, veq.veqs f l m = true → l = m
  | [], [], _ => rfl
  | x :: xs, y :: ys, h => by
    simp only [veq.veqs, Bool.and_eq_true] at h
    rw [hf _ _ h.1, veqs_ok hf xs ys h.2]
  | [], _ :: _, h => by cases h
  | _ :: _, [], h => by cases h
theorem veq_ok : ∀ (k : Nat) (u v : Value), veq k u v = true → u = v
  | 0, _, _, h => by cases h
  | k + 1, u, v, h => by
    have hs := veqs_ok (veq_ok k)
    unfold veq at h
    split at h
    all_goals first
      | rfl
      | (cases h; done)
      | skip
    all_goals try simp only [Bool.and_eq_true, decide_eq_true_eq, beq_iff_eq] at h
    · rw [h]
    · rw [h.1, h.2]
    · rename_i a b
      have h2 : a.data.toList = b.data.toList := eq_of_beq h
      rw [ByteArray.ext (Array.ext' h2)]
    · rw [Nat.eq_of_beq_eq_true h.1, Nat.eq_of_beq_eq_true h.2]
    · rw [Nat.eq_of_beq_eq_true h.1, Nat.eq_of_beq_eq_true h.2]
    · rw [Nat.eq_of_beq_eq_true h.1.1.1, Nat.eq_of_beq_eq_true h.1.1.2, Nat.eq_of_beq_eq_true h.1.2, Nat.eq_of_beq_eq_true h.2]
    · rw [Nat.eq_of_beq_eq_true h]
    · rw [Nat.eq_of_beq_eq_true h.1, veq_ok k _ _ h.2]
    · rw [Nat.eq_of_beq_eq_true h.1.1, Array.ext' (hs _ _ h.1.2), Array.ext' (hs _ _ h.2)]
    · rw [Nat.eq_of_beq_eq_true h.1.1, Array.ext' (hs _ _ h.1.2), Array.ext' (hs _ _ h.2)]
    · rw [Array.ext' (hs _ _ h)]
    · rw [Array.ext' (hs _ _ h)]
    · rw [Nat.eq_of_beq_eq_true h.1, Nat.eq_of_beq_eq_true h.2]
def passB (P : Program) (E : Env) (Q : Eqs) (call : ACall) (round : ARound) (all : List Oper) (dx : Tri Nat) (hs : List (Nat × Nat × AH)) (effall : Nat) (ancs : List Nat) (T0 T : Tri Value) : List Oper → Nat → Bool
  | [], _ => true
  | o :: os, i => (bif isReader E o.op then (match awant all (sf dx (fun j => ancs.getD j 0) i T0.get T.get) o with
      | some true => hs.all fun (m, u, H) => bif Nat.beq ((ancs.getD i 0 &&& effall) ||| m) m && !u.testBit i then (match aoper1 P E Q call round (sf dx (fun j => ancs.getD j 0) i T0.get T.get) H o with
          | some (v, _) => match o.dst with
            | none => true
            | some d => match T.get d with
              | some v' => veq 12 v v'
              | none => false
          | none => false) else true
      | some false => true
      | none => false) else true) && passB P E Q call round all dx hs effall ancs T0 T os (i + 1)
def distinctB : List (Nat × Blk) → Bool
  | [] => true
  | x :: l => l.all (fun y => !Nat.beq x.1 y.1) && distinctB l
def adraw (P : Program) (E : Env) (Q : Eqs) (call : ACall) (round : ARound) (n : Nat) (all : List Oper) (T : Tri Value) (H : AH) : Option (Tri Value × AH) :=
  bif dxOk (dxOf all 0 .nil) n all 0 && Nat.blt (H.next + all.length) 1099511627776 && Nat.blt n 1048575 then
    (match passA P E Q call round n all (dxOf all 0 .nil) (ancsOf all []) H.next all 0 [] 0 0 [] T ⟨H.t, H.next + all.length⟩ with
    | some out => bif eqNats out.ancs (ancsOf all []) && passB P E Q call round all (dxOf all 0 .nil) (out.effs.map (fun e => (e.before, e.ups, e.H)) ++ [(out.before, out.ups, out.H)]) out.before out.ancs T out.T all 0 && distinctB (out.effs.flatMap (·.ad) ++ out.pend)
        then some (out.T, adopt H.next out.H out.pend) else none
    | none => none) else none
end
end AM
end Go.Proofs.YtdmbppgogdkpdaaGreatDoor
namespace Go.Proofs.YtdmbppgogdkpdaaGreatDoor
namespace AM
open Go.RowKit
variable [Toks]

section
variable {P : Program} {E : Env} {Q : Eqs} {call : ACall} {round : ARound} {n : Nat} {all : List Oper} {dx : Tri Nat} {T0 : Nat → Option Value} {Al : List Nat} {N0 : Nat}
def PutIn (Tf : Nat → Option Value) (o : Oper) (v : Value) : Prop := ∀ d, o.dst = some d → Tf d = some v
structure EffFact (P : Program) (E : Env) (Q : Eqs) (call : ACall) (round : ARound) (all : List Oper) (dx : Tri Nat) (T0 : Nat → Option Value) (N0 : Nat) (A : Nat → Nat) (Tf : Nat → Option Value) (e : DEff) : Prop where
  op : ∃ o, all[e.i]? = some o ∧ awant all (sf dx A e.i T0 Tf) o = some true ∧ isAlloc o.op = false ∧ (isPure o.op || isReader E o.op) = false ∧
    ∃ v, aoper1 P E Q call round (sf dx A e.i T0 Tf) (adopt N0 e.H e.ad) o = some (v, e.H') ∧ PutIn Tf o v
  ad : ∀ x ∈ e.ad, (A e.i).testBit x.1 = true
structure OpFact (P : Program) (E : Env) (Q : Eqs) (call : ACall) (round : ARound) (all : List Oper) (dx : Tri Nat) (T0 : Nat → Option Value) (N0 : Nat) (A : Nat → Nat) (Tf : Nat → Option Value) (effs : List DEff) (L : List (Nat × Blk)) (k : Nat) (o : Oper) : Prop where
  edges : ∀ e ∈ o.after, Region.binds .any e = true → e.on < k
  anc : ∀ j, (A k).testBit j = true → ∃ e ∈ o.after, Region.binds .any e = true ∧ (j = e.on ∨ (A e.on).testBit j = true)
  low : ∀ j, (A k).testBit j = true → j < k
  kind : (awant all (sf dx A k T0 Tf) o = some false ∧ PutIn Tf o undef) ∨
    (awant all (sf dx A k T0 Tf) o = some true ∧ isAlloc o.op = true ∧ ∃ v b, aallocB E (sf dx A k T0 Tf) (N0 + k) o.op = some (v, b) ∧ PutIn Tf o v ∧ (k, b) ∈ L) ∨
    (awant all (sf dx A k T0 Tf) o = some true ∧ isAlloc o.op = false ∧ (isPure o.op || isReader E o.op) = true ∧ ∃ v H K, aoper1 P E Q call round (sf dx A k T0 Tf) H o = some (v, K) ∧ PutIn Tf o v) ∨
    (∃ e ∈ effs, e.i = k)
theorem OpFact.mono {A : Nat → Nat} {Tf : Nat → Option Value} {effs effs' : List DEff} {L L' : List (Nat × Blk)} {k : Nat} {o : Oper} (h : OpFact P E Q call round all dx T0 N0 A Tf effs L k o) (h1 : ∀ e ∈ effs, e ∈ effs') (h2 : ∀ x ∈ L, x ∈ L') : OpFact P E Q call round all dx T0 N0 A Tf effs' L' k o := by
  refine ⟨h.edges, h.anc, h.low, ?_⟩
  rcases h.kind with h | ⟨a1, a2, v, b, a3, a4, a5⟩ | h | ⟨e, he, hk⟩
  · exact .inl h
  · exact .inr (.inl ⟨a1, a2, v, b, a3, a4, h2 _ a5⟩)
  · exact .inr (.inr (.inl h))
  · exact .inr (.inr (.inr ⟨e, h1 e he, hk⟩))
def Chain (A : Nat → Nat) : Nat → Nat → AH → List DEff → Nat → Nat → AH → Prop
  | m, u, H, [], m', u', H' => m = m' ∧ u = u' ∧ H = H'
  | m, u, H, e :: es, m', u', H' => e.before = m ∧ e.ups = u ∧ e.H = H ∧ Chain A (m ||| 2 ^ e.i) (u ||| A e.i) e.H' es m' u' H'
def DOut.A (out : DOut) (j : Nat) : Nat := out.ancs.getD j 0
def DOut.L (out : DOut) : List (Nat × Blk) := out.effs.flatMap (·.ad) ++ out.pend
structure PassOk (P : Program) (E : Env) (Q : Eqs) (call : ACall) (round : ARound) (all : List Oper) (dx : Tri Nat) (T0 : Nat → Option Value) (N0 : Nat) (i : Nat) (ancs : List Nat) (m u : Nat) (pend : List (Nat × Blk)) (T : Tri Value) (H : AH) (out : DOut) : Prop where
  ancs : ∀ j, j < i → out.ancs.getD j 0 = ancs.getD j 0
  slots : ∀ t, (dx.get t = none ∨ ∃ k, k < i ∧ dx.get t = some k) → out.T.get t = T.get t
  ops : ∀ k o, i ≤ k → all[k]? = some o → OpFact P E Q call round all dx T0 N0 out.A out.T.get out.effs out.L k o
  held : ∀ x ∈ pend, x ∈ out.L
  chain : Chain out.A m u H out.effs out.before out.ups out.H
  effs : ∀ e ∈ out.effs, i ≤ e.i ∧ EffFact P E Q call round all dx T0 N0 out.A out.T.get e ∧ ∀ j, m.testBit j = true → (out.A e.i).testBit j = true
  pair : out.effs.Pairwise fun e' e => (out.A e.i).testBit e'.i = true
  keys : ∀ x ∈ out.L, x ∈ pend ∨ ∃ o, all[x.1]? = some o ∧ awant all (sf dx out.A x.1 T0 out.T.get) o = some true ∧ isAlloc o.op = true
theorem aput_get {T T' : Tri Value} {dst : Option Tmp} {v : Value} (e : aput T n dst v = some T') (t : Nat) : T'.get t = if dst = some t then some v else T.get t := by
  unfold aput at e
  split at e
  · cases e; rfl
  · rename_i d
    cases hb : (Nat.blt d n && Nat.blt n 1048575) with
    | false => rw [hb] at e; cases e
    | true =>
      rw [hb, cond_true] at e
      cases e
      simp only [Bool.and_eq_true] at hb
      have h1 : d < n := Nat.le_of_ble_eq_true hb.1
      have h2 : n < 1048575 := Nat.le_of_ble_eq_true hb.2
      rw [Tri.get_set 20 T d t v (Nat.lt_of_le_of_lt (Nat.succ_le_of_lt h1) (Nat.lt_trans h2 (by decide)))]
      by_cases e2 : t = d
      · subst e2; simp
      · rw [if_neg e2, if_neg (fun h => e2 (Option.some.inj h).symm)]
theorem PassOk.step {i : Nat} {ancs : List Nat} {m' u' : Nat} {pend' : List (Nat × Blk)} {T T' : Tri Value} {H' : AH} {out : DOut} {o : Oper} {v : Value}
    (hdx : ∀ k o d, all[k]? = some o → o.dst = some d → dx.get d = some k) (hlen : ancs.length = i) (hbits : ∀ j b, (ancs.getD j 0).testBit b = true → b < i) (ho : all[i]? = some o)
    (hed : ∀ e ∈ o.after, Region.binds .any e = true → e.on < i)
    (hA : ∀ j, Al.getD j 0 = out.A j) (hT0 : ∀ t k, dx.get t = some k → i ≤ k → T.get t = T0 t)
    (hp : aput T n o.dst v = some T') (h : PassOk P E Q call round all dx T0 N0 (i + 1) (ancs ++ [ancOf ancs o]) m' u' pend' T' H' out) :
    (∀ j, j < i → out.ancs.getD j 0 = ancs.getD j 0) ∧ out.A i = ancOf ancs o ∧ (∀ t, (dx.get t = none ∨ ∃ k, k < i ∧ dx.get t = some k) → out.T.get t = T.get t) ∧ PutIn out.T.get o v ∧
    sl dx Al i (ancOf ancs o) T.get = sf dx out.A i T0 out.T.get ∧ (∀ j, (out.A i).testBit j = true → ∃ e ∈ o.after, Region.binds .any e = true ∧ (j = e.on ∨ (out.A e.on).testBit j = true)) ∧ (∀ j, (out.A i).testBit j = true → j < i) := by
  have c1 : ∀ j, j < i → out.ancs.getD j 0 = ancs.getD j 0 := fun j hj => by
    rw [h.ancs j (by omega), List.getD_eq_getElem?_getD, List.getElem?_append_left (by omega), ← List.getD_eq_getElem?_getD]
  have c1' : out.A i = ancOf ancs o := by
    unfold DOut.A
    rw [h.ancs i (by omega), List.getD_eq_getElem?_getD, List.getElem?_append_right (by omega), hlen, Nat.sub_self]; rfl
  have c2 : ∀ t, (dx.get t = none ∨ ∃ k, k < i ∧ dx.get t = some k) → out.T.get t = T.get t := fun t ht => by
    rw [h.slots t (by rcases ht with ht | ⟨k, hk, ht⟩; exact .inl ht; exact .inr ⟨k, by omega, ht⟩), aput_get hp, if_neg]
    intro hd
    have := hdx i o t ho hd
    rcases ht with ht | ⟨k, hk, ht⟩
    · rw [ht] at this; cases this
    · rw [ht] at this; cases this; omega
  have low : ∀ j, (ancOf ancs o).testBit j = true → j < i := fun j hj => by
    obtain ⟨e, h1, h2, h3⟩ := ancOf_bit hj
    rcases h3 with rfl | h3
    · exact hed e h1 h2
    · exact hbits _ _ h3
  refine ⟨c1, c1', c2, fun d hd => ?_, ?_, ?_, by rw [c1']; exact low⟩
  · rw [h.slots d (.inr ⟨i, by omega, hdx i o d ho hd⟩), aput_get hp, if_pos hd]
  · funext t
    unfold sl sf
    cases hd : dx.get t with
    | none => exact (c2 t (.inl hd)).symm
    | some k =>
      dsimp only
      cases hb : (ancOf ancs o).testBit k with
      | true => rw [c1', hb, Bool.true_or, cond_true, cond_true]; exact (c2 t (.inr ⟨k, low k hb, hd⟩)).symm
      | false =>
        rw [c1', hb, Bool.false_or, cond_false, hA]
        cases hb2 : (Nat.blt i k && (out.A k).testBit i) with
        | false => rfl
        | true =>
          rw [cond_true, cond_true]
          rw [Bool.and_eq_true] at hb2
          exact hT0 t k hd (Nat.le_of_lt (Nat.le_of_ble_eq_true hb2.1))
  · rw [c1']
    intro j hj
    obtain ⟨e, h1, h2, h3⟩ := ancOf_bit hj
    refine ⟨e, h1, h2, ?_⟩
    rcases h3 with h3 | h3
    · exact .inl h3
    · right; unfold DOut.A; rw [c1 _ (hed e h1 h2)]; exact h3
theorem passA_ok (hdx : ∀ k o d, all[k]? = some o → o.dst = some d → dx.get d = some k) : ∀ (os : List Oper) (i : Nat) (ancs : List Nat) (m u : Nat) (pend : List (Nat × Blk)) (T : Tri Value) (H : AH) (out : DOut),
    (∀ j, Al.getD j 0 = out.A j) → (∀ t k, dx.get t = some k → i ≤ k → T.get t = T0 t) → all.drop i = os → ancs.length = i → (∀ j b, (ancs.getD j 0).testBit b = true → b < i) → passA P E Q call round n all dx Al N0 os i ancs m u pend T H = some out → PassOk P E Q call round all dx T0 N0 i ancs m u pend T H out
  | [], i, ancs, m, u, pend, T, H, out, hA, hT0, hd, hlen, hbits, e => by
    simp only [passA, Option.some.injEq] at e
    subst e
    refine ⟨fun _ _ => rfl, fun _ _ => rfl, fun k o hk ho => ?_, fun x hx => by simpa [DOut.L] using hx, ⟨rfl, rfl, rfl⟩, fun e he => by simp at he, List.Pairwise.nil, fun x hx => .inl (by simpa [DOut.L] using hx)⟩
    have : all.length ≤ i := List.drop_eq_nil_iff.1 hd
    have := (List.getElem?_eq_some_iff.1 ho).1
    omega
  | o :: os, i, ancs, m, u, pend, T, H, out, hA, hT0, hd, hlen, hbits, e => by
    have ho : all[i]? = some o := by
      have := List.getElem?_drop (xs := all) (i := i) (j := 0)
      rw [hd] at this
      simpa using this.symm
    have hd' : all.drop (i + 1) = os := by
      rw [← List.drop_drop, hd]; rfl
    rw [passA] at e
    cases hb : (o.after.toList.all fun e => !Region.binds .any e || Nat.blt e.on i) with
    | false => rw [hb] at e; cases e
    | true =>
      rw [hb, cond_true] at e
      have hed : ∀ e ∈ o.after, Region.binds .any e = true → e.on < i := fun e he h1 => by
        have := List.all_eq_true.1 hb e (by simpa using he)
        rw [h1] at this
        simpa using this
      have hlen' : (ancs ++ [ancOf ancs o]).length = i + 1 := by simp [hlen]
      have hbits' : ∀ j b, ((ancs ++ [ancOf ancs o]).getD j 0).testBit b = true → b < i + 1 := fun j b h => by
        rw [List.getD_eq_getElem?_getD] at h
        rcases Nat.lt_or_ge j i with hj | hj
        · rw [List.getElem?_append_left (by omega), ← List.getD_eq_getElem?_getD] at h
          exact Nat.lt_succ_of_lt (hbits _ _ h)
        · rcases Nat.eq_or_lt_of_le hj with rfl | hj
          · rw [List.getElem?_append_right (by omega), hlen, Nat.sub_self] at h
            obtain ⟨e, h1, h2, h3⟩ := ancOf_bit (j := b) h
            rcases h3 with rfl | h3
            · exact Nat.lt_succ_of_lt (hed e h1 h2)
            · exact Nat.lt_succ_of_lt (hbits _ _ h3)
          · rw [List.getElem?_eq_none (by simp; omega)] at h; simp at h
      have hput : ∀ v T', aput T n o.dst v = some T' → ∀ t k, dx.get t = some k → i + 1 ≤ k → T'.get t = T0 t := fun v T' hT t k hk hik => by
        rw [aput_get hT, if_neg]
        · exact hT0 t k hk (by omega)
        · intro hd2
          rw [hdx i o t ho hd2] at hk; cases hk; omega
      have ih := fun m u pend T H out hA hT0 => passA_ok hdx os (i + 1) (ancs ++ [ancOf ancs o]) m u pend T H out hA hT0 hd' hlen' hbits'
      split at e
      · rename_i hw
        split at e
        · rename_i T' hT
          have h := ih _ _ _ _ _ _ hA (hput _ _ hT) e
          obtain ⟨c1, c2, c3, c4, c5, c6, c7⟩ := h.step hdx hlen hbits ho hed hA hT0 hT
          refine ⟨c1, c3, fun k p hk hp => ?_, h.held, h.chain, fun e he => let ⟨a1, a2, a3⟩ := h.effs e he; ⟨by omega, a2, a3⟩, h.pair, h.keys⟩
          rcases Nat.eq_or_lt_of_le hk with rfl | hk
          · rw [ho] at hp; cases hp
            exact ⟨hed, c6, c7, .inl ⟨by rw [← c5]; exact hw, c4⟩⟩
          · exact h.ops k p hk hp
        · cases e
      · rename_i hw
        cases ha : isAlloc o.op with
        | true =>
          rw [ha, cond_true] at e
          split at e
          · rename_i v b hv
            split at e
            · rename_i T' hT
              have h := ih _ _ _ _ _ _ hA (hput _ _ hT) e
              obtain ⟨c1, c2, c3, c4, c5, c6, c7⟩ := h.step hdx hlen hbits ho hed hA hT0 hT
              refine ⟨c1, c3, fun k p hk hp => ?_, fun x hx => h.held x (by simp [hx]), h.chain, fun e he => let ⟨a1, a2, a3⟩ := h.effs e he; ⟨by omega, a2, a3⟩, h.pair, fun x hx => ?_⟩
              · rcases Nat.eq_or_lt_of_le hk with rfl | hk
                · rw [ho] at hp; cases hp
                  exact ⟨hed, c6, c7, .inr (.inl ⟨by rw [← c5]; exact hw, ha, v, b, by rw [← c5]; exact hv, c4, h.held _ (by simp)⟩)⟩
                · exact h.ops k p hk hp
              · rcases h.keys x hx with hx | hx
                · rcases List.mem_cons.1 hx with rfl | hx
                  · exact .inr ⟨o, ho, by rw [← c5]; exact hw, ha⟩
                  · exact .inl hx
                · exact .inr hx
            · cases e
          · cases e
        | false =>
          rw [ha, cond_false] at e
          cases hf : (isPure o.op || isReader E o.op) with
          | true =>
            rw [hf, cond_true] at e
            split at e
            · rename_i v K hv
              split at e
              · rename_i T' hT
                have h := ih _ _ _ _ _ _ hA (hput _ _ hT) e
                obtain ⟨c1, c2, c3, c4, c5, c6, c7⟩ := h.step hdx hlen hbits ho hed hA hT0 hT
                refine ⟨c1, c3, fun k p hk hp => ?_, h.held, h.chain, fun e he => let ⟨a1, a2, a3⟩ := h.effs e he; ⟨by omega, a2, a3⟩, h.pair, h.keys⟩
                rcases Nat.eq_or_lt_of_le hk with rfl | hk
                · rw [ho] at hp; cases hp
                  exact ⟨hed, c6, c7, .inr (.inr (.inl ⟨by rw [← c5]; exact hw, ha, hf, v, H, K, by rw [← c5]; exact hv, c4⟩))⟩
                · exact h.ops k p hk hp
              · cases e
            · cases e
          | false =>
            rw [hf, cond_false] at e
            cases hm : Nat.beq (ancOf ancs o &&& m) m with
            | false => rw [hm] at e; cases e
            | true =>
              rw [hm, cond_true] at e
              have hm' := Nat.eq_of_beq_eq_true hm
              split at e
              · rename_i v K hv
                split at e
                · rename_i T' hT
                  split at e
                  · rename_i out' he'
                    cases e
                    have hA' : ∀ j, Al.getD j 0 = out'.A j := hA
                    have h := ih _ _ _ _ _ _ hA' (hput _ _ hT) he'
                    obtain ⟨c1, c2, c3, c4, c5, c6, c7⟩ := h.step hdx hlen hbits ho hed hA' hT0 hT
                    have hL : ∀ x, x ∈ out'.L → x ∈ (⟨⟨i, m, u, H, pend.filter fun x => (ancOf ancs o).testBit x.1, K⟩ :: out'.effs, out'.pend, out'.before, out'.ups, out'.ancs, out'.T, out'.H⟩ : DOut).L := fun x hx => by
                      simp only [DOut.L, List.flatMap_cons, List.append_assoc, List.mem_append] at hx ⊢
                      exact .inr hx
                    refine ⟨c1, c3, fun k p hk hp => ?_, fun x hx => ?_, ⟨rfl, rfl, rfl, ?_⟩, fun e he => ?_, ?_, fun x hx => ?_⟩
                    · rcases Nat.eq_or_lt_of_le hk with rfl | hk
                      · exact ⟨by rw [ho] at hp; cases hp; exact hed, by rw [ho] at hp; cases hp; exact c6, c7, .inr (.inr (.inr ⟨_, List.mem_cons_self, rfl⟩))⟩
                      · exact (h.ops k p hk hp).mono (fun e he => List.mem_cons_of_mem _ he) hL
                    · cases hx2 : (ancOf ancs o).testBit x.1 with
                      | true => simp only [DOut.L, List.flatMap_cons, List.append_assoc, List.mem_append]; exact .inl (List.mem_filter.2 ⟨hx, hx2⟩)
                      | false => exact hL x (h.held x (List.mem_filter.2 ⟨hx, by rw [hx2]; rfl⟩))
                    · have := h.chain
                      rw [← c2] at this
                      exact this
                    · rcases List.mem_cons.1 he with rfl | he
                      · refine ⟨Nat.le_refl _, ⟨⟨o, ho, by rw [← hw, c5]; rfl, ha, hf, v, by rw [← hv, c5]; rfl, c4⟩, fun x hx => ?_⟩, fun j hj => ?_⟩
                        · have := (List.mem_filter.1 hx).2
                          rw [← c2] at this; exact this
                        · have : (ancOf ancs o &&& m).testBit j = true := by rw [hm']; exact hj
                          rw [Nat.testBit_and, Bool.and_eq_true] at this
                          rw [← c2] at this
                          exact this.1
                      · obtain ⟨a1, a2, a3⟩ := h.effs e he
                        exact ⟨by omega, a2, fun j hj => a3 j (by rw [Nat.testBit_or, hj]; rfl)⟩
                    · refine List.Pairwise.cons (fun e he => ?_) h.pair
                      exact (h.effs e he).2.2 i (by rw [Nat.testBit_or, Nat.testBit_two_pow]; simp)
                    · simp only [DOut.L, List.flatMap_cons, List.append_assoc, List.mem_append] at hx
                      rcases hx with hx | hx
                      · exact .inl (List.mem_filter.1 hx).1
                      · rcases h.keys x (by simpa [DOut.L] using hx) with hx | hx
                        · exact .inl (List.mem_filter.1 hx).1
                        · exact .inr hx
                  · cases e
                · cases e
              · cases e
      · cases e
end
end AM
end Go.Proofs.YtdmbppgogdkpdaaGreatDoor
namespace Go.Proofs.YtdmbppgogdkpdaaGreatDoor
namespace AM
open Go.RowKit
variable [Toks]

section
variable {P : Program} {E : Env} {Q : Eqs} {call : ACall} {round : ARound} {n : Nat} {all : List Oper} {dx : Tri Nat} {T0 : Nat → Option Value} {N0 : Nat}
theorem dxOk_ok {n : Nat} : ∀ (os : List Oper) (i : Nat), all.drop i = os → dxOk dx n os i = true → ∀ k o d, i ≤ k → all[k]? = some o → o.dst = some d → d < n ∧ dx.get d = some k
  | [], i, hd, _, k, o, d, hk, ho, _ => by
    have : all.length ≤ i := List.drop_eq_nil_iff.1 hd
    have := (List.getElem?_eq_some_iff.1 ho).1
    omega
  | p :: os, i, hd, h, k, o, d, hk, ho, hod => by
    simp only [dxOk, Bool.and_eq_true] at h
    have hp : all[i]? = some p := by
      have := List.getElem?_drop (xs := all) (i := i) (j := 0)
      rw [hd] at this
      simpa using this.symm
    rcases Nat.eq_or_lt_of_le hk with rfl | hk
    · rw [hp] at ho; cases ho
      have h1 := h.1
      rw [hod] at h1
      simp only [Bool.and_eq_true] at h1
      refine ⟨Nat.le_of_ble_eq_true h1.1, ?_⟩
      have h2 := h1.2
      split at h2
      · rename_i j hj; rw [hj, Nat.eq_of_beq_eq_true h2]
      · cases h2
    · exact dxOk_ok os (i + 1) (by rw [← List.drop_drop, hd]; rfl) h.2 k o d hk ho hod
theorem dxOf_ok {n : Nat} (hn : n < 1048575) : ∀ (os : List Oper) (i : Nat) (D : Tri Nat), (∀ o ∈ os, ∀ d, o.dst = some d → d < n) → ∀ t k, (dxOf os i D).get t = some k → D.get t = some k ∨ ∃ o, i ≤ k ∧ os[k - i]? = some o ∧ o.dst = some t
  | [], i, D, _, t, k, h => .inl h
  | o :: os, i, D, hb, t, k, h => by
    rw [dxOf] at h
    have fin : ∀ D', (dxOf os (i + 1) D').get t = some k → D'.get t = some k ∨ ∃ o', i ≤ k ∧ (o :: os)[k - i]? = some o' ∧ o'.dst = some t := fun D' h' => by
      rcases dxOf_ok hn os (i + 1) D' (fun o ho => hb o (by simp [ho])) t k h' with h1 | ⟨o', h1, h2, h3⟩
      · exact .inl h1
      · refine .inr ⟨o', by omega, ?_, h3⟩
        rw [show k - i = (k - (i + 1)) + 1 by omega]; exact h2
    split at h
    · rename_i d hd
      rcases fin _ h with h1 | h1
      · have hdn := hb o (by simp) d hd
        rw [Tri.get_set 20 D d t i (Nat.lt_of_le_of_lt (Nat.succ_le_of_lt hdn) (Nat.lt_trans hn (by decide)))] at h1
        by_cases e : t = d
        · rw [if_pos e] at h1; cases h1
          exact .inr ⟨o, Nat.le_refl _, by rw [Nat.sub_self]; rfl, by rw [hd, e]⟩
        · rw [if_neg e] at h1; exact .inl h1
      · exact .inr h1
    · exact fin _ h
theorem passB_ok {hs : List (Nat × Nat × AH)} {effall : Nat} {ancs : List Nat} {T0 T : Tri Value} : ∀ (os : List Oper) (i : Nat), all.drop i = os → passB P E Q call round all dx hs effall ancs T0 T os i = true →
    ∀ k o, i ≤ k → all[k]? = some o → isReader E o.op = true → awant all (sf dx (fun j => ancs.getD j 0) k T0.get T.get) o = some true → ∀ m u H, (m, u, H) ∈ hs → (ancs.getD k 0 &&& effall) ||| m = m → u.testBit k = false →
      ∃ v K, aoper1 P E Q call round (sf dx (fun j => ancs.getD j 0) k T0.get T.get) H o = some (v, K) ∧ PutIn T.get o v
  | [], i, hd, _, k, o, hk, ho => by
    have : all.length ≤ i := List.drop_eq_nil_iff.1 hd
    have := (List.getElem?_eq_some_iff.1 ho).1
    omega
  | p :: os, i, hd, h, k, o, hk, ho => by
    intro hr hw m u H hm h1 h2
    simp only [passB, Bool.and_eq_true] at h
    have hp : all[i]? = some p := by
      have := List.getElem?_drop (xs := all) (i := i) (j := 0)
      rw [hd] at this
      simpa using this.symm
    rcases Nat.eq_or_lt_of_le hk with rfl | hk
    · rw [hp] at ho; cases ho
      have g := h.1
      rw [hr, cond_true, hw] at g
      have g := List.all_eq_true.1 g _ hm
      dsimp only at g
      rw [h1, h2, show Nat.beq m m = true from Nat.beq_refl m] at g
      simp only [Bool.not_false, Bool.and_self, cond_true] at g
      split at g
      · rename_i v K hv
        refine ⟨v, K, hv, fun d hd => ?_⟩
        rw [hd] at g
        simp only at g
        split at g
        · rename_i v' hv'
          rw [hv', veq_ok _ _ _ g]
        · cases g
      · cases g
    · exact passB_ok os (i + 1) (by rw [← List.drop_drop, hd]; rfl) h.2 k o hk ho hr hw m u H hm h1 h2
theorem distinctB_ok : ∀ l : List (Nat × Blk), distinctB l = true → l.Pairwise fun x y => x.1 ≠ y.1
  | [], _ => .nil
  | x :: l, h => by
    simp only [distinctB, Bool.and_eq_true] at h
    refine .cons (fun y hy e => ?_) (distinctB_ok l h.2)
    have := List.all_eq_true.1 h.1 y hy
    rw [e, show Nat.beq y.1 y.1 = true from Nat.beq_refl _] at this
    cases this
theorem keys_uniq : ∀ l : List (Nat × Blk), l.Pairwise (fun x y => x.1 ≠ y.1) → ∀ x ∈ l, ∀ y ∈ l, x.1 = y.1 → x = y
  | [], _, x, hx, _, _, _ => by simp at hx
  | z :: l, h, x, hx, y, hy, e => by
    obtain ⟨h1, h2⟩ := List.pairwise_cons.1 h
    rcases List.mem_cons.1 hx with hx | hx <;> rcases List.mem_cons.1 hy with hy | hy
    · rw [hx, hy]
    · rw [hx] at e; exact absurd e (h1 y hy)
    · rw [hy] at e; exact absurd e.symm (h1 x hx)
    · exact keys_uniq l h2 x hx y hy e
/-! ### Slots -/
structure Slots (all : List Oper) (dx : Tri Nat) (T0 Tf : Nat → Option Value) (n : Nat) (D : List Deferred) (S : Nat → Prop) (μ : Mp) (a : Act) : Prop where
  size : a.tmps.size = n
  defers : a.defers = D
  outer : ∀ t v, dx.get t = none → Tf t = some v → ∃ v', a.tmps[t]? = some v' ∧ VR μ v v'
  slots : ∀ k o t v, S k → all[k]? = some o → o.dst = some t → Tf t = some v → ∃ v', a.tmps[t]? = some v' ∧ VR μ v v'
  old : ∀ k t v, ¬ S k → dx.get t = some k → T0 t = some v → ∃ v', a.tmps[t]? = some v' ∧ VR μ v v'
theorem Slots.mono {Tf : Nat → Option Value} {D : List Deferred} {S : Nat → Prop} {μ ν : Mp} {a : Act} (h : Slots all dx T0 Tf n D S μ a) (hs : μ.sub ν) : Slots all dx T0 Tf n D S ν a :=
  ⟨h.size, h.defers, fun t v h1 h2 => let ⟨v', h3, h4⟩ := h.outer t v h1 h2; ⟨v', h3, h4.monoS hs⟩, fun k o t v h0 h1 h2 h5 => let ⟨v', h3, h4⟩ := h.slots k o t v h0 h1 h2 h5; ⟨v', h3, h4.monoS hs⟩, fun k t v h0 h1 h2 => let ⟨v', h3, h4⟩ := h.old k t v h0 h1 h2; ⟨v', h3, h4.monoS hs⟩⟩
theorem Slots.put {Tf : Nat → Option Value} {D : List Deferred} {S : Nat → Prop} {μ : Mp} {a : Act} (h : Slots all dx T0 Tf n D S μ a) (hdx : ∀ k o d, all[k]? = some o → o.dst = some d → d < n ∧ dx.get d = some k) {i : Nat} {o : Oper} (ho : all[i]? = some o) (hi : ¬ S i) {v v' : Value} (hv : VR μ v v') (hp : PutIn Tf o v) :
    Slots all dx T0 Tf n D (fun k => S k ∨ k = i) μ (a.put o.dst v') := by
  have get : ∀ t, o.dst ≠ some t → (a.put o.dst v').tmps[t]? = a.tmps[t]? := fun t ht => by
    unfold Act.put
    cases hd : o.dst with
    | none => rfl
    | some d =>
      show (a.tmps.setIfInBounds d v')[t]? = _
      rw [Array.getElem?_setIfInBounds, if_neg (by rintro rfl; exact ht hd)]
  refine ⟨?_, ?_, ?_, ?_, ?_⟩
  · unfold Act.put; cases o.dst <;> simp [h.size]
  · rw [← h.defers]; unfold Act.put; cases o.dst <;> rfl
  · intro t u h1 h2
    rw [get t (fun hd => by rw [(hdx i o t ho hd).2] at h1; cases h1)]
    exact h.outer t u h1 h2
  · intro k p t u hk hp' hd hu
    rcases hk with hk | rfl
    · rw [get t (fun hd2 => by
        have e1 := (hdx i o t ho hd2).2
        have e2 := (hdx k p t hp' hd).2
        rw [e1] at e2; cases e2; exact hi hk)]
      exact h.slots k p t u hk hp' hd hu
    · rw [ho] at hp'; cases hp'
      have e := hp t hd
      rw [hu] at e; cases e
      refine ⟨v', ?_, hv⟩
      rw [hd]
      show (a.tmps.setIfInBounds t v')[t]? = _
      rw [Array.getElem?_setIfInBounds, if_pos rfl, if_pos (by rw [h.size]; exact (hdx k o t ho hd).1)]
  · intro k t u hk hd hu
    rw [get t (fun hd2 => by
      rw [(hdx i o t ho hd2).2] at hd; cases hd; exact hk (.inr rfl))]
    exact h.old k t u (fun h => hk (.inl h)) hd hu
theorem Slots.tr {Tf : Nat → Option Value} {D : List Deferred} {S : Nat → Prop} {μ : Mp} {a : Act} (h : Slots all dx T0 Tf n D S μ a) (hrev : ∀ t k, dx.get t = some k → ∃ o, all[k]? = some o ∧ o.dst = some t) {A : Nat → Nat} {i : Nat} (ha : ∀ j, (A i).testBit j = true → S j) (hb : ∀ k, (A k).testBit i = true → ¬ S k) : TR μ (sf dx A i T0 Tf) a.tmps := by
  intro t v e
  unfold sf at e
  split at e
  · rename_i k hk
    cases h1 : (A i).testBit k with
    | true =>
      rw [h1, cond_true] at e
      obtain ⟨o, h2, h3⟩ := hrev t k hk
      exact h.slots k o t v (ha k h1) h2 h3 e
    | false =>
      rw [h1, cond_false] at e
      cases h2 : (Nat.blt i k && (A k).testBit i) with
      | false => rw [h2] at e; cases e
      | true =>
        rw [h2, cond_true] at e
        rw [Bool.and_eq_true] at h2
        exact h.old k t v (hb k h2.2) hk e
  · rename_i hk
    exact h.outer t v hk e
/-! ### Memory -/
def Held (N0 : Nat) (b0 b : Base) (μ : Mp) (w : World) (x : Nat × Blk) : Prop := ∃ g s o, μ (N0 + x.1) = some (g, s) ∧ b.B g ∧ ¬ b0.B g ∧ ¬ b0.L g ∧ w.heap[g]? = some o ∧ BlkR μ s x.2 o ∧ x.2.own = true
def plOf (out : DOut) (R : List DEff) : List (Nat × Blk) := R.flatMap (·.ad) ++ out.pend
structure Mem (all : List Oper) (N0 : Nat) (out : DOut) (b0 : Base) (μ0 : Mp) (S : Nat → Prop) (μ : Mp) (m u : Nat) (Hc : AH) (R : List DEff) (b : Base) (w : World) : Prop where
  rel : Rel μ Hc b w
  under : Under b0 b
  le : μ0.le μ
  next : N0 + all.length ≤ Hc.next
  chain : Chain out.A m u Hc R out.before out.ups out.H
  suff : ∃ l, out.effs = l ++ R
  done : ∀ e ∈ out.effs, S e.i ∨ e ∈ R
  fresh : ∀ e ∈ R, ¬ S e.i
  ups : ∀ k, u.testBit k = true → S k
  edges : ∀ k, S k → ∀ j, (out.A k).testBit j = true → S j
  unm : ∀ k, k < all.length → ¬ S k → μ (N0 + k) = none
  held : ∀ x ∈ plOf out R, S x.1 → Held N0 b0 b μ w x
  apart : ∀ x ∈ plOf out R, ∀ y ∈ plOf out R, S x.1 → S y.1 → x.1 ≠ y.1 → ∀ g s g' s', μ (N0 + x.1) = some (g, s) → μ (N0 + y.1) = some (g', s') → g ≠ g'
theorem Held.world {b0 b : Base} {μ ν : Mp} {w w' : World} {x : Nat × Blk} (h : Held N0 b0 b μ w x) (hs : μ.sub ν) (hk : ∀ g, b.B g → w'.heap[g]? = w.heap[g]?) : Held N0 b0 b ν w' x := by
  obtain ⟨g, s, o, h1, h2, h3, h4, h5, h6, h7⟩ := h
  exact ⟨g, s, o, hs _ _ h1, h2, h3, h4, by rw [hk g h2]; exact h5, h6.monoS hs, h7⟩
theorem Mem.world {out : DOut} {b0 : Base} {μ0 : Mp} {S : Nat → Prop} {μ ν : Mp} {m u : Nat} {Hc : AH} {R : List DEff} {b : Base} {w w' : World} (h : Mem all N0 out b0 μ0 S μ m u Hc R b w) (hle : μ.le ν) (hr : Rel ν Hc b w') : Mem all N0 out b0 μ0 S ν m u Hc R b w' := by
  refine ⟨hr, h.under, h.le.trans hle, h.next, h.chain, h.suff, h.done, h.fresh, h.ups, h.edges, fun k hk hS => ?_, fun x hx hS => (h.held x hx hS).world hle.sub fun g hg => by rw [hr.keep g hg, h.rel.keep g hg], fun x hx y hy hSx hSy hne g s g' s' e1 e2 => ?_⟩
  · rw [hle.2 _ (by rw [h.rel.num]; have := h.next; omega)]; exact h.unm k hk hS
  · obtain ⟨g1, s1, _, f1, _⟩ := h.held x hx hSx
    obtain ⟨g2, s2, _, f2, _⟩ := h.held y hy hSy
    rw [hle.sub _ _ f1] at e1; cases e1
    rw [hle.sub _ _ f2] at e2; cases e2
    exact h.apart x hx y hy hSx hSy hne _ _ _ _ f1 f2
theorem Mem.more {out : DOut} {b0 : Base} {μ0 : Mp} {S : Nat → Prop} {μ : Mp} {m u : Nat} {Hc : AH} {R : List DEff} {b : Base} {w : World} (h : Mem all N0 out b0 μ0 S μ m u Hc R b w) {i : Nat} (hanc : ∀ j, (out.A i).testBit j = true → S j) (hx : ∀ x ∈ plOf out R, x.1 ≠ i) (he : ∀ e ∈ R, e.i ≠ i) :
    Mem all N0 out b0 μ0 (fun k => S k ∨ k = i) μ m u Hc R b w :=
  ⟨h.rel, h.under, h.le, h.next, h.chain, h.suff, fun e he => (h.done e he).imp .inl id, fun e he' hS => hS.elim (h.fresh e he') (he e he'), fun k hk => .inl (h.ups k hk),
   fun k hk j hj => hk.elim (fun hk => .inl (h.edges k hk j hj)) (fun e => .inl (hanc j (e ▸ hj))), fun k hk hS => h.unm k hk (fun hs => hS (.inl hs)),
   fun x hx' hS => h.held x hx' (hS.resolve_right (hx x hx')), fun x hx' y hy hSx hSy => h.apart x hx' y hy (hSx.resolve_right (hx x hx')) (hSy.resolve_right (hx y hy))⟩
/-- A block is laid ahead of its turn. -/
theorem Mem.lay {out : DOut} {b0 : Base} {μ0 : Mp} {S : Nat → Prop} {μ : Mp} {m u : Nat} {Hc : AH} {R : List DEff} {b : Base} {w : World} (h : Mem all N0 out b0 μ0 S μ m u Hc R b w) (hd : (plOf out R).Pairwise fun x y => x.1 ≠ y.1) (hμ0 : μ0.N ≤ N0) {i : Nat} {c : Blk} {ob : Obj} {s : Nat} (hi : i < all.length) (hanc : ∀ j, (out.A i).testBit j = true → S j) (hS : ¬ S i) (hx : (i, c) ∈ plOf out R) (he : ∀ e ∈ R, e.i ≠ i) (hr : BlkR μ s c ob) (hc : c.own = true) :
    ∃ ν b', μ.sub ν ∧ ν (N0 + i) = some (w.heap.size, s) ∧ Mem all N0 out b0 μ0 (fun k => S k ∨ k = i) ν m u Hc R b' (w.alloc ob) := by
  have hid : N0 + i < μ.N := by rw [h.rel.num]; have := h.next; omega
  have h0 := h.unm i hi hS
  have hs := Mp.at_sub μ (w.heap.size, s) hid h0
  have hz : (w.alloc ob).heap.size = w.heap.size + 1 := by simp
  have uniq : ∀ x ∈ plOf out R, x.1 = i → x = (i, c) := fun x hx' e => keys_uniq _ hd x hx' (i, c) hx e
  refine ⟨μ.at (N0 + i) (w.heap.size, s) hid h0, b.lay w ob h.rel.size, hs, Mp.at_self _ _ _ _ _, ?_⟩
  have old : ∀ x ∈ plOf out R, S x.1 → ∃ g s', μ (N0 + x.1) = some (g, s') ∧ g < w.heap.size := fun x hx' hSx => by
    obtain ⟨g, s', o, h1, _, _, _, h5, _⟩ := h.held x hx' hSx
    exact ⟨g, s', h1, (Array.getElem?_eq_some_iff.1 h5).1⟩
  refine ⟨(h.rel.lay ob).remap hid h0, h.under.lay h.rel ob, ⟨h.le.1, fun k hk => ?_⟩, h.next, h.chain, h.suff, fun e he => (h.done e he).imp .inl id, fun e he' hS => hS.elim (h.fresh e he') (he e he'), fun k hk => .inl (h.ups k hk),
   fun k hk j hj => hk.elim (fun hk => .inl (h.edges k hk j hj)) (fun e => .inl (hanc j (e ▸ hj))), fun k hk hSk => ?_, fun x hx' hSx => ?_, fun x hx' y hy hSx hSy hne g s1 g' s2 e1 e2 => ?_⟩
  · rw [Mp.at_ne _ _ _ _ (by omega)]; exact h.le.2 k hk
  · rw [Mp.at_ne _ _ _ _ (fun e => hSk (.inr (by omega)))]; exact h.unm k hk (fun hs => hSk (.inl hs))
  · rcases hSx with hSx | e
    · obtain ⟨g, s', o, h1, h2, h3, h4, h5, h6, h7⟩ := h.held x hx' hSx
      exact ⟨g, s', o, hs _ _ h1, .inl h2, h3, h4, by rw [Below.heap_alloc _ _ _ (Array.getElem?_eq_some_iff.1 h5).1]; exact h5, h6.monoS hs, h7⟩
    · rw [uniq x hx' e]
      have h1 := h.under.size
      have h2 := h.rel.size
      exact ⟨w.heap.size, s, ob, Mp.at_self _ _ _ _ _, .inr rfl, fun hB => by have := b0.bound _ hB; omega, fun hB => by have := b0.lbound _ hB; omega, Array.getElem?_push_size, hr.monoS hs, hc⟩
  · rcases hSx with hSx | ex <;> rcases hSy with hSy | ey
    · have ne : ∀ z, S z → z ≠ i := fun z hz e => hS (e ▸ hz)
      rw [Mp.at_ne _ _ _ _ (fun e => ne _ hSx (by omega))] at e1
      rw [Mp.at_ne _ _ _ _ (fun e => ne _ hSy (by omega))] at e2
      exact h.apart x hx' y hy hSx hSy hne _ _ _ _ e1 e2
    · obtain ⟨g1, s3, f1, f2⟩ := old x hx' hSx
      rw [hs _ _ f1] at e1; cases e1
      rw [ey, Mp.at_self] at e2; cases e2
      omega
    · obtain ⟨g1, s3, f1, f2⟩ := old y hy hSy
      rw [hs _ _ f1] at e2; cases e2
      rw [ex, Mp.at_self] at e1; cases e1
      omega
    · exact absurd (ex.trans ey.symm) hne
/-- Blocks come into their own. -/
theorem adopt_list {b0 : Base} {μ : Mp} {w : World} {K : Nat} : ∀ (l : List (Nat × Blk)) (rest : List (Nat × Blk)) (Hc : AH) (b : Base), Rel μ Hc b w → Under b0 b → K ≤ Hc.next → (∀ x ∈ l, N0 + x.1 < K) → (∀ x ∈ l, Held N0 b0 b μ w x) → (l ++ rest).Pairwise (fun x y => x.1 ≠ y.1) →
    ∀ S : Nat → Prop, (∀ x ∈ l, S x.1) → (∀ x ∈ rest, S x.1 → Held N0 b0 b μ w x) → (∀ x ∈ l ++ rest, ∀ y ∈ l ++ rest, S x.1 → S y.1 → x.1 ≠ y.1 → ∀ g s g' s', μ (N0 + x.1) = some (g, s) → μ (N0 + y.1) = some (g', s') → g ≠ g') →
    ∃ b', Rel μ (adopt N0 Hc l) b' w ∧ Under b0 b' ∧ (adopt N0 Hc l).next = Hc.next ∧ ∀ x ∈ rest, S x.1 → Held N0 b0 b' μ w x
  | [], rest, Hc, b, hr, hu, _, _, _, _, S, _, hrest, _ => ⟨b, hr, hu, rfl, hrest⟩
  | x :: l, rest, Hc, b, hr, hu, hK, hlt, hl, hd, S, hS, hrest, hap => by
    obtain ⟨g, s, o, h1, h2, h3, h4, h5, h6, h7⟩ := hl x (by simp)
    have hf := hr.adopt (id := N0 + x.1) (Nat.lt_of_lt_of_le (hlt x (by simp)) hK) h1 h5 h6 h7 h2 (by rw [hu.L]; exact h4)
    rw [List.cons_append] at hd hap
    have hd1 := (List.pairwise_cons.1 hd).1
    have free : ∀ y ∈ l ++ rest, S y.1 → Held N0 b0 b μ w y → Held N0 b0 (b.free g) μ w y := fun y hy hSy hh => by
      obtain ⟨g', s', o', k1, k2, k3⟩ := hh
      exact ⟨g', s', o', k1, ⟨k2, fun e => hap x (by simp) y (by simp [List.mem_append.1 hy]) (hS x (by simp)) hSy (hd1 y hy) g s g' s' h1 k1 e.symm⟩, k3⟩
    exact adopt_list l rest (Hc.put (N0 + x.1) x.2) (b.free g) hf (hu.free h3) hK (fun y hy => hlt y (by simp [hy])) (fun y hy => free y (by simp [hy]) (hS y (by simp [hy])) (hl y (by simp [hy]))) (List.pairwise_cons.1 hd).2 S (fun y hy => hS y (by simp [hy]))
      (fun y hy hSy => free y (by simp [hy]) hSy (hrest y hy hSy)) (fun y hy z hz => hap y (List.mem_cons_of_mem _ hy) z (List.mem_cons_of_mem _ hz))
end
end AM
end Go.Proofs.YtdmbppgogdkpdaaGreatDoor
namespace Go.Proofs.YtdmbppgogdkpdaaGreatDoor
namespace AM
open Go.RowKit
variable [Toks]

section
variable {P : Program} {E : Env} {Q : Eqs} {call : ACall} {round : ARound} {n : Nat}
theorem chain_mask {A : Nat → Nat} {m' u' : Nat} {H' : AH} : ∀ (R : List DEff) (m u : Nat) (H : AH), Chain A m u H R m' u' H' → ∀ j, m'.testBit j = true → m.testBit j = true ∨ ∃ e ∈ R, e.i = j
  | [], m, u, H, h, j, hj => .inl (by rw [h.1]; exact hj)
  | e :: R, m, u, H, h, j, hj => by
    rcases chain_mask R _ _ _ h.2.2.2 j hj with h1 | ⟨e', h1, h2⟩
    · rw [Nat.testBit_or, Nat.testBit_two_pow, Bool.or_eq_true] at h1
      rcases h1 with h1 | h1
      · exact .inl h1
      · exact .inr ⟨e, by simp, by simpa using h1⟩
    · exact .inr ⟨e', by simp [h1], h2⟩
/-- What is known of a statement. -/
structure Drawn (P : Program) (E : Env) (Q : Eqs) (call : ACall) (round : ARound) (n : Nat) (all : List Oper) (dx : Tri Nat) (T0 : Nat → Option Value) (N0 : Nat) (out : DOut) : Prop where
  own : ∀ k o d, all[k]? = some o → o.dst = some d → d < n ∧ dx.get d = some k
  rev : ∀ t k, dx.get t = some k → ∃ o, all[k]? = some o ∧ o.dst = some t
  ops : ∀ k o, all[k]? = some o → OpFact P E Q call round all dx T0 N0 out.A out.T.get out.effs out.L k o
  effs : ∀ e ∈ out.effs, EffFact P E Q call round all dx T0 N0 out.A out.T.get e
  pair : out.effs.Pairwise fun e' e => (out.A e.i).testBit e'.i = true
  keys : ∀ x ∈ out.L, ∃ o, all[x.1]? = some o ∧ awant all (sf dx out.A x.1 T0 out.T.get) o = some true ∧ isAlloc o.op = true
  reads : ∀ k o, all[k]? = some o → isReader E o.op = true → awant all (sf dx out.A k T0 out.T.get) o = some true → ∀ m u H, (m, u, H) ∈ out.effs.map (fun e => (e.before, e.ups, e.H)) ++ [(out.before, out.ups, out.H)] → (out.A k &&& out.before) ||| m = m → u.testBit k = false →
      ∃ v K, aoper1 P E Q call round (sf dx out.A k T0 out.T.get) H o = some (v, K) ∧ PutIn out.T.get o v
  dist : out.L.Pairwise fun x y => x.1 ≠ y.1
def listedS (listed : Array Bool) (k : Nat) : Prop := listed.getD k false = true
theorem listedS_set {listed : Array Bool} {i : Nat} (hi : i < listed.size) : listedS (listed.setIfInBounds i true) = fun k => listedS listed k ∨ k = i := by
  funext k
  unfold listedS
  rw [Array.getD_eq_getD_getElem?, Array.getD_eq_getD_getElem?, Array.getElem?_setIfInBounds]
  apply propext
  by_cases e : i = k
  · subst e; simp [hi]
  · rw [if_neg e]
    exact ⟨.inl, fun h => h.resolve_right (fun e' => e e'.symm)⟩
theorem adraw_any (hE : E.Ok P) (hQ : Q.Ok P) (hC : CallOk P call) (hR : RoundOk P round) {ops : Array Oper} {dx : Tri Nat} {T0 : Nat → Option Value} {N0 : Nat} {out : DOut} (hF : Drawn P E Q call round n ops.toList dx T0 N0 out) {b0 : Base} {μ0 : Mp} (hμ0 : μ0.N ≤ N0) {D : List Deferred} {r : Option Nat} {mm : Nat} {Qx : Exit → Act → World → Prop}
    (hk : ∀ ν a' w', μ0.le ν → St ν (adopt N0 out.H out.pend) out.T n D b0 a' w' → Qx .normal a' w') : ∀ (fuel : Nat) (listed : Array Bool) (a : Act) (w : World), listed.size = ops.size → listed.toList.count false ≤ fuel →
    (∃ μ m u Hc R b, Mem ops.toList N0 out b0 μ0 (listedS listed) μ m u Hc R b w ∧ Slots ops.toList dx T0 out.T.get n D (listedS listed) μ a) → wpAnyIn (fw r) mm P .any ops Qx fuel listed a w := by
  have size : ops.toList.length = ops.size := by simp
  have fin : ∀ (listed : Array Bool) (a : Act) (w : World), (∀ k, k < ops.size → listedS listed k) → (∃ μ m u Hc R b, Mem ops.toList N0 out b0 μ0 (listedS listed) μ m u Hc R b w ∧ Slots ops.toList dx T0 out.T.get n D (listedS listed) μ a) → Qx .normal a w := by
    rintro listed a w hall ⟨μ, m, u, Hc, R, b, hM, hS⟩
    have hR0 : R = [] := by
      cases R with
      | nil => rfl
      | cons e R =>
        obtain ⟨l, hl⟩ := hM.suff
        obtain ⟨⟨o, ho, _⟩, _⟩ := hF.effs e (by rw [hl]; simp)
        exact absurd (hall e.i (by rw [← size]; exact (List.getElem?_eq_some_iff.1 ho).1)) (hM.fresh e (by simp))
    subst hR0
    obtain ⟨_, _, rfl⟩ := hM.chain
    have hsub : ∀ x ∈ out.pend, x ∈ out.L := fun x hx => List.mem_append.2 (.inr hx)
    have hlt : ∀ x ∈ out.pend, x.1 < ops.size := fun x hx => by
      obtain ⟨o, ho, _⟩ := hF.keys x (hsub x hx)
      rw [← size]; exact (List.getElem?_eq_some_iff.1 ho).1
    have hpl : plOf out [] = out.pend := rfl
    obtain ⟨b', h1, h2, _, _⟩ := adopt_list (K := N0 + ops.size) out.pend [] out.H b hM.rel hM.under (by have := hM.next; omega) (fun x hx => by have := hlt x hx; omega)
      (fun x hx => hM.held x (by rw [hpl]; exact hx) (hall _ (hlt x hx))) (by rw [List.append_nil]; exact (List.pairwise_append.1 hF.dist).2.1) (listedS listed) (fun x hx => hall _ (hlt x hx)) (fun x hx => by simp at hx)
      (by rw [List.append_nil]; exact hM.apart)
    refine hk μ a w hM.le ⟨h1.back h2, fun t v hv => ?_, hS.size, hS.defers⟩
    cases hd : dx.get t with
    | none => exact hS.outer t v hd hv
    | some k =>
      obtain ⟨o, h3, h4⟩ := hF.rev t k hd
      exact hS.slots k o t v (hall k (by rw [← size]; exact (List.getElem?_eq_some_iff.1 h3).1)) h3 h4 hv
  intro fuel
  induction fuel with
  | zero =>
    intro listed a w hsz hc hM
    have hall : ∀ k, k < ops.size → listedS listed k := fun k hk' => by
      have h0 : listed.toList.count false = 0 := by omega
      have h1 := List.count_eq_zero.1 h0
      have hk'' : k < listed.size := by omega
      unfold listedS
      rw [Array.getD_eq_getD_getElem?, Array.getElem?_eq_getElem hk'']
      cases hb : listed[k] with
      | true => rfl
      | false => exact absurd (by rw [← hb]; simp) h1
    refine ⟨?_, fin listed a w hall hM⟩
    rw [List.eq_nil_iff_forall_not_mem]
    intro j hj
    obtain ⟨h1, o, h2, _⟩ := mem_ready.1 hj
    have hj' : j < ops.size := (Array.getElem?_eq_some_iff.1 h2).1
    have := hall j hj'
    unfold listedS at this
    rw [Array.getD_eq_getD_getElem?, Array.getElem?_eq_getElem (by omega)] at h1 this
    rw [Option.getD_some] at h1 this
    rw [h1] at this; cases this
  | succ fuel ih =>
    intro listed a w hsz hc hM
    refine ⟨fun hnil => fin listed a w ?_ hM, fun i hi => ?_⟩
    · intro k
      induction k using Nat.strongRecOn with
      | _ k ihk =>
        intro hk'
        rcases Classical.em (listedS listed k) with h | h
        · exact h
        · have hk2 : k < listed.size := by omega
          have : k ∈ Region.ready .any ops listed := mem_ready.2 ⟨by
            unfold listedS at h
            rw [Array.getD_eq_getD_getElem?, Array.getElem?_eq_getElem hk2] at h ⊢
            simpa using h, ops[k], Array.getElem?_eq_getElem hk', fun e he hb => by
            have hlt := (hF.ops k ops[k] (by simp [hk'])).edges e he hb
            exact ihk e.on hlt (by omega)⟩
          rw [hnil] at this; simp at this
    · obtain ⟨μ, m, u, Hc, R, b, hM, hS⟩ := hM
      obtain ⟨h1, o, ho, hedge⟩ := mem_ready.1 hi
      have hi' : i < ops.size := (Array.getElem?_eq_some_iff.1 ho).1
      have hil : i < listed.size := by omega
      have hoL : ops.toList[i]? = some o := by simpa using ho
      have hnS : ¬ listedS listed i := by
        unfold listedS
        rw [Array.getD_eq_getD_getElem?, Array.getElem?_eq_getElem hil] at h1 ⊢
        simpa using h1
      have F := hF.ops i o hoL
      have hanc : ∀ j, (out.A i).testBit j = true → listedS listed j := fun j hj => by
        obtain ⟨e, h2, h3, h4⟩ := F.anc j hj
        rcases h4 with rfl | h4
        · exact hedge e h2 h3
        · exact hM.edges e.on (hedge e h2 h3) j h4
      have hT : TR μ (sf dx out.A i T0 out.T.get) a.tmps := hS.tr hF.rev hanc (fun k h2 h3 => hnS (hM.edges k h3 i h2))
      have hcnt : (listed.setIfInBounds i true).toList.count false ≤ fuel := by
        have hb : listed[i] = false := by
          rw [Array.getD_eq_getD_getElem?, Array.getElem?_eq_getElem hil] at h1
          simpa using h1
        rw [Array.toList_setIfInBounds, List.count_set (by simpa using hil)]
        have hpos : 0 < listed.toList.count false := List.count_pos_iff.2 (by rw [← hb]; simp)
        rw [Array.getElem_toList, hb]
        simp only [beq_self_eq_true, if_true, show (true == false) = false from rfl, Bool.false_eq_true, if_false]
        omega
      have nxt : ∀ ν a' w', (∃ m u Hc R b, Mem ops.toList N0 out b0 μ0 (fun k => listedS listed k ∨ k = i) ν m u Hc R b w') → Slots ops.toList dx T0 out.T.get n D (fun k => listedS listed k ∨ k = i) ν a' → wpAnyIn (fw r) mm P .any ops Qx fuel (listed.setIfInBounds i true) a' w' := by
        rintro ν a' w' ⟨m, u, Hc, R, b, g1⟩ g2
        refine ih _ a' w' (by simpa using hsz) hcnt ⟨ν, m, u, Hc, R, b, ?_, ?_⟩
        · rw [listedS_set hil]; exact g1
        · rw [listedS_set hil]; exact g2
      obtain ⟨pre, hpre⟩ := hM.suff
      have plL : ∀ x ∈ plOf out R, x ∈ out.L := fun x hx => by
        unfold DOut.L
        rw [hpre, List.flatMap_append, List.append_assoc]
        exact List.mem_append.2 (.inr hx)
      have plD : (plOf out R).Pairwise fun x y => x.1 ≠ y.1 := by
        have := hF.dist
        unfold DOut.L at this
        rw [hpre, List.flatMap_append, List.append_assoc] at this
        exact (List.pairwise_append.1 this).2.1
      have noKey : (awant ops.toList (sf dx out.A i T0 out.T.get) o = some true → isAlloc o.op = false) → ∀ x ∈ plOf out R, x.1 ≠ i := fun h x hx e => by
        obtain ⟨o', h2, h3, h4⟩ := hF.keys x (plL x hx)
        rw [e, hoL] at h2; cases h2
        rw [e] at h3
        rw [h h3] at h4; cases h4
      have noEff : (awant ops.toList (sf dx out.A i T0 out.T.get) o = some true → isAlloc o.op = false → (isPure o.op || isReader E o.op) = false → False) → ∀ e ∈ R, e.i ≠ i := fun h e he ei => by
        obtain ⟨⟨o', h2, h3, h4, h5, _⟩, _⟩ := hF.effs e (by rw [hpre]; exact List.mem_append.2 (.inr he))
        rw [ei, hoL] at h2; cases h2
        rw [ei] at h3
        exact h h3 h4 h5
      unfold wpOpIn
      rw [ho]
      dsimp only
      rcases F.kind with ⟨hw, hput⟩ | ⟨hw, hal, v, c, hv, hput, hL⟩ | ⟨hw, hal, hfl, v, H, K, hv, hput⟩ | ⟨e, he, hei⟩
      · rw [if_neg (by rw [awant_ok hT hw]; decide)]
        refine ⟨fun _ _ => trivial, nxt μ _ _ ⟨m, u, Hc, R, b, hM.more hanc (noKey fun h => by rw [hw] at h; cases h) (noEff fun h => by rw [hw] at h; cases h)⟩ (hS.put hF.own hoL hnS (cval_ok μ 3 undef rfl) hput)⟩
      · rw [if_pos (awant_ok hT hw)]
        obtain ⟨q1, q2, ob, s, v', q3, q4, q5⟩ := aallocB_ok (w := w) hE hT hv
        refine ⟨fun _ _ => trivial, ?_⟩
        rw [Oper.semAt_eq _ _ _ q2, q3]
        obtain ⟨ν, b', n1, n2, n3⟩ := hM.lay plD hμ0 (by rw [size]; exact hi') hanc hnS (c := c) (by
          unfold DOut.L at hL
          rw [hpre, List.flatMap_append, List.append_assoc] at hL
          rcases List.mem_append.1 hL with hL | hL
          · obtain ⟨e, he, hx⟩ := List.mem_flatMap.1 hL
            have heL : e ∈ out.effs := by rw [hpre]; exact List.mem_append.2 (.inl he)
            rcases hM.done e heL with h5 | h5
            · exact absurd (hM.edges _ h5 _ ((hF.effs e heL).ad _ hx)) hnS
            · have := (List.pairwise_append.1 (hpre ▸ hF.pair)).2.2 e he e h5
              exact absurd ((hF.ops e.i _ (hF.effs e heL).op.choose_spec.1).low _ this) (Nat.lt_irrefl _)
          · exact hL) (noEff fun h h2 => by rw [hal] at h2; cases h2) q4 q1
        exact nxt ν _ _ ⟨m, u, Hc, R, b', n3⟩ ((hS.mono n1).put hF.own hoL hnS (q5 ν n2) hput)
      · rw [if_pos (awant_ok hT hw)]
        have key : ∃ v, aoper1 P E Q call round (sf dx out.A i T0 out.T.get) Hc o = some (v, Hc) ∧ PutIn out.T.get o v := by
          cases hp : isPure o.op with
          | true => exact ⟨v, aoper_pure hp hv, hput⟩
          | false =>
            rw [hp, Bool.false_or] at hfl
            obtain ⟨v2, K2, g1, g2⟩ := hF.reads i o hoL hfl hw m u Hc (by
              cases R with
              | nil =>
                obtain ⟨rfl, rfl, rfl⟩ := hM.chain
                simp
              | cons e R =>
                obtain ⟨rfl, rfl, rfl, _⟩ := hM.chain
                rw [hpre]
                simp) (by
              apply Nat.eq_of_testBit_eq
              intro j
              rw [Nat.testBit_or, Nat.testBit_and]
              cases h2 : m.testBit j with
              | true => rw [Bool.or_true]
              | false =>
                rw [Bool.or_false]
                cases h3 : (out.A i).testBit j with
                | false => rfl
                | true =>
                  rw [Bool.true_and]
                  cases h4 : out.before.testBit j with
                  | false => rfl
                  | true =>
                    rcases chain_mask R _ _ _ hM.chain j h4 with h5 | ⟨e, h5, h6⟩
                    · rw [h2] at h5; exact h5.symm
                    · exact absurd (h6 ▸ hanc j h3) (hM.fresh e h5)) (by
              cases h2 : u.testBit i with
              | false => rfl
              | true => exact absurd (hM.ups i h2) hnS)
            have := aoper_same hfl g1
            subst this
            exact ⟨v2, g1, g2⟩
        obtain ⟨v2, g1, g2⟩ := key
        refine aoper1_ok hE hQ hC hR hM.rel hT g1 ?_
        intro ν v' w' hle hrel hvr
        exact nxt ν _ _ ⟨m, u, Hc, R, b, (hM.world hle hrel).more hanc (noKey fun _ => hal) (noEff fun _ _ h => by rw [hfl] at h; cases h)⟩ ((hS.mono hle.sub).put hF.own hoL hnS hvr g2)
      · have heR : e ∈ R := (hM.done e he).resolve_left (by rw [hei]; exact hnS)
        cases R with
        | nil => simp at heR
        | cons e0 R =>
          have hpR := (List.pairwise_append.1 (hpre ▸ hF.pair)).2.1
          have : e = e0 := by
            rcases List.mem_cons.1 heR with h2 | h2
            · exact h2
            · have h3 := (List.pairwise_cons.1 hpR).1 e h2
              rw [hei] at h3
              exact absurd (hanc _ h3) (hM.fresh e0 (by simp))
          subst this
          obtain ⟨⟨o', k1, k2, k3, k4, v, k5, k6⟩, kad⟩ := hF.effs e he
          rw [hei] at k1 k2 k5 kad
          rw [hoL] at k1; cases k1
          rw [if_pos (awant_ok hT k2)]
          obtain ⟨c1, c2, c3, c4⟩ := hM.chain
          have hpl : plOf out (e :: R) = e.ad ++ plOf out R := by unfold plOf; rw [List.flatMap_cons, List.append_assoc]
          have hlt : ∀ x ∈ e.ad, x.1 < ops.size := fun x hx => by
            obtain ⟨o', h2, _⟩ := hF.keys x (plL x (by rw [hpl]; exact List.mem_append.2 (.inl hx)))
            rw [← size]; exact (List.getElem?_eq_some_iff.1 h2).1
          obtain ⟨b', r1, r2, r3, r4⟩ := adopt_list (K := N0 + ops.size) e.ad (plOf out R) Hc b hM.rel hM.under (by have := hM.next; omega) (fun x hx => by have := hlt x hx; omega)
            (fun x hx => hM.held x (by rw [hpl]; exact List.mem_append.2 (.inl hx)) (hanc _ (kad x hx))) (by rw [← hpl]; exact plD) (listedS listed) (fun x hx => hanc _ (kad x hx)) (fun x hx => hM.held x (by rw [hpl]; exact List.mem_append.2 (.inr hx)))
            (by rw [← hpl]; exact hM.apart)
          rw [c3] at k5
          refine aoper1_ok hE hQ hC hR r1 hT k5 ?_
          intro ν v' w' hle hrel hvr
          have hanx : e.H'.next = e.H'.next := rfl
          have hN : N0 + ops.toList.length ≤ e.H'.next := by
            have h2 := hle.1
            rw [r1.num, hrel.num, r3] at h2
            exact Nat.le_trans hM.next h2
          refine nxt ν _ _ ⟨m ||| 2 ^ e.i, u ||| out.A e.i, e.H', R, b', hrel, r2, hM.le.trans hle, hN, c4, ⟨pre ++ [e], by rw [hpre]; simp⟩, fun f hf => ?_, fun f hf hS' => ?_, fun k hk' => ?_, fun k hk' j hj => ?_, fun k hk' hS' => ?_, fun x hx hSx => ?_, fun x hx y hy hSx hSy hne g s g' s' e1 e2 => ?_⟩ ((hS.mono hle.sub).put hF.own hoL hnS hvr k6)
          · rcases hM.done f hf with h2 | h2
            · exact .inl (.inl h2)
            · rcases List.mem_cons.1 h2 with rfl | h2
              · exact .inl (.inr hei)
              · exact .inr h2
          · rcases hS' with h2 | h2
            · exact hM.fresh f (by simp [hf]) h2
            · have h3 := (List.pairwise_cons.1 hpR).1 f hf
              rw [h2] at h3
              have := (hF.ops i o hoL).low _ h3
              omega
          · rw [Nat.testBit_or, Bool.or_eq_true] at hk'
            rcases hk' with h2 | h2
            · exact .inl (hM.ups k h2)
            · rw [hei] at h2; exact .inl (hanc k h2)
          · rcases hk' with h2 | rfl
            · exact .inl (hM.edges k h2 j hj)
            · exact .inl (hanc j hj)
          · rw [hle.2 _ (by rw [r1.num, r3]; have := hM.next; omega)]
            exact hM.unm k hk' (fun h2 => hS' (.inl h2))
          · have hxi : x.1 ≠ i := noKey (fun _ => k3) x (by rw [hpl]; exact List.mem_append.2 (.inr hx))
            exact (r4 x hx (hSx.resolve_right hxi)).world hle.sub fun g hg => by rw [hrel.keep g hg, r1.keep g hg]
          · have hx' := noKey (fun _ => k3) x (by rw [hpl]; exact List.mem_append.2 (.inr hx))
            have hy' := noKey (fun _ => k3) y (by rw [hpl]; exact List.mem_append.2 (.inr hy))
            obtain ⟨g1, s1, _, f1, _⟩ := r4 x hx (hSx.resolve_right hx')
            obtain ⟨g2, s2, _, f2, _⟩ := r4 y hy (hSy.resolve_right hy')
            rw [hle.sub _ _ f1] at e1; cases e1
            rw [hle.sub _ _ f2] at e2; cases e2
            exact hM.apart x (by rw [hpl]; exact List.mem_append.2 (.inr hx)) y (by rw [hpl]; exact List.mem_append.2 (.inr hy)) (hSx.resolve_right hx') (hSy.resolve_right hy') hne _ _ _ _ f1 f2
end
end AM
end Go.Proofs.YtdmbppgogdkpdaaGreatDoor
namespace Go.Proofs.YtdmbppgogdkpdaaGreatDoor
namespace AM
open Go.RowKit
variable [Toks]

section
variable {P : Program} {E : Env} {Q : Eqs} {call : ACall} {round : ARound} {n : Nat}
theorem Rel.wide {μ : Mp} {H : AH} {b : Base} {w : World} (h : Rel μ H b w) (k : Nat) (hn : H.next + k < 2 ^ 40) : ∃ ν : Mp, μ.le ν ∧ (∀ j, ν j = μ j) ∧ Rel ν ⟨H.t, H.next + k⟩ b w := by
  let ν : Mp := ⟨μ.f, H.next + k, fun j hj => μ.wf j (by rw [h.num]; omega), μ.gl⟩
  have hs : μ.sub ν := fun _ _ e => e
  refine ⟨ν, ⟨by show μ.N ≤ H.next + k; rw [h.num]; omega, fun _ _ => rfl⟩, fun _ => rfl, ?_⟩
  exact ⟨h.os, h.tape, h.output, h.size, h.keep, hn, rfl, fun j c hj => let ⟨g, s, h1, h2, h3⟩ := h.lies j c hj; ⟨g, s, h1, fun hl => let ⟨o, h4, h5⟩ := h2 hl; ⟨o, h4, h5.monoS hs⟩, h3⟩, h.apart, h.ro⟩
theorem adraw_ok (hE : E.Ok P) (hQ : Q.Ok P) (hC : CallOk P call) (hR : RoundOk P round) (hm : P.follows .mixedOrders = true) {id : Nat} {ops : Array Oper} {T T' : Tri Value} {H H' : AH} (e : adraw P E Q call round n ops.toList T H = some (T', H')) {b0 : Base} {μ : Mp} {D : List Deferred} {a : Act} {w : World} (hs : St μ H T n D b0 a w) {r : Option Nat} {mm : Nat} {Qx : Exit → Act → World → Prop}
    (hk : ∀ ν a' w', μ.le ν → St ν H' T' n D b0 a' w' → Qx .normal a' w') : (Code.region id ops true).wpIn (fw r) mm P Qx a w := by
  unfold adraw at e
  cases hc : (dxOk (dxOf ops.toList 0 .nil) n ops.toList 0 && Nat.blt (H.next + ops.toList.length) 1099511627776 && Nat.blt n 1048575) with
  | false => rw [hc] at e; cases e
  | true =>
    rw [hc, cond_true] at e
    simp only [Bool.and_eq_true] at hc
    obtain ⟨⟨c1, c2⟩, c3⟩ := hc
    have c2 : H.next + ops.toList.length < 1099511627776 := Nat.le_of_ble_eq_true c2
    have c3 : n < 1048575 := Nat.le_of_ble_eq_true c3
    split at e
    · rename_i out hout
      cases hc : (eqNats out.ancs (ancsOf ops.toList []) && passB P E Q call round ops.toList (dxOf ops.toList 0 .nil) (out.effs.map (fun e => (e.before, e.ups, e.H)) ++ [(out.before, out.ups, out.H)]) out.before out.ancs T out.T ops.toList 0 && distinctB (out.effs.flatMap (·.ad) ++ out.pend)) with
      | false => rw [hc] at e; cases e
      | true =>
        rw [hc, cond_true] at e
        rw [Bool.and_eq_true, Bool.and_eq_true] at hc
        cases e
        have hA : ∀ j, (ancsOf ops.toList []).getD j 0 = out.A j := fun j => by rw [← eqNats_ok _ _ hc.1.1]; rfl
        have own := fun k o d => dxOk_ok (all := ops.toList) (dx := dxOf ops.toList 0 .nil) (n := n) ops.toList 0 rfl c1 k o d (Nat.zero_le k)
        have hP := passA_ok (fun k o d h1 h2 => (own k o d h1 h2).2) ops.toList 0 [] 0 0 [] T ⟨H.t, H.next + ops.toList.length⟩ out hA (T0 := T.get) (fun _ _ _ _ => rfl) rfl rfl (fun j b h => by simp at h) hout
        have hF : Drawn P E Q call round n ops.toList (dxOf ops.toList 0 .nil) T.get H.next out := by
          refine ⟨own, fun t k h => ?_, fun k o ho => hP.ops k o (Nat.zero_le k) ho, fun e he => (hP.effs e he).2.1, hP.pair, fun x hx => (hP.keys x hx).resolve_left (by simp), fun k o ho hr hw m u H1 h1 h2 h3 => ?_, distinctB_ok _ hc.2⟩
          · rcases dxOf_ok c3 ops.toList 0 .nil (fun o ho d hd => by
              obtain ⟨k, hk, he⟩ := List.getElem_of_mem ho
              exact (own k o d (by rw [List.getElem?_eq_getElem hk, he]) hd).1) t k h with h | ⟨o, _, h2, h3⟩
            · cases h
            · exact ⟨o, by simpa using h2, h3⟩
          · exact passB_ok ops.toList 0 rfl hc.1.2 k o (Nat.zero_le k) ho hr hw m u H1 h1 h2 h3
        obtain ⟨ν0, v1, v2, v3⟩ := hs.rel.drew.wide ops.toList.length (by omega)
        refine wpIn_region_any hm (adraw_any hE hQ hC hR hF (b0 := b0) (μ0 := μ) (D := D) (Nat.le_of_eq hs.rel.num) hk ops.size _ a _ (by simp) (by simp) ⟨ν0, 0, 0, _, out.effs, b0, ⟨v3, .refl b0, v1, Nat.le_refl _, hP.chain, ⟨[], rfl⟩, fun e he => .inr he, fun e he h => ?_, fun k h => by simp at h, fun k h => ?_, fun k hk _ => ?_, fun x _ h => ?_, fun x _ y _ h => ?_⟩, ⟨hs.size, hs.defers, fun t v ht hv => ?_, fun k o t v h => ?_, fun k t v _ _ hv => ?_⟩⟩)
        · have : ∀ k, ¬ listedS (Array.replicate ops.size false) k := fun k h => by
            unfold listedS at h
            rw [Array.getD_eq_getD_getElem?, Array.getElem?_replicate] at h
            split at h <;> simp at h
          exact this _ h
        · exact absurd h (by unfold listedS; rw [Array.getD_eq_getD_getElem?, Array.getElem?_replicate]; split <;> simp)
        · rw [v2]; exact μ.wf _ (by rw [hs.rel.num]; omega)
        · exact absurd h (by unfold listedS; rw [Array.getD_eq_getD_getElem?, Array.getElem?_replicate]; split <;> simp)
        · exact absurd h (by unfold listedS; rw [Array.getD_eq_getD_getElem?, Array.getElem?_replicate]; split <;> simp)
        · rw [hP.slots t (.inl ht)] at hv
          obtain ⟨v', q1, q2⟩ := hs.tmps t v hv
          exact ⟨v', q1, q2.mono v1⟩
        · exact absurd h (by unfold listedS; rw [Array.getD_eq_getD_getElem?, Array.getElem?_replicate]; split <;> simp)
        · obtain ⟨v', q1, q2⟩ := hs.tmps t v hv
          exact ⟨v', q1, q2.mono v1⟩
    · cases e
/-- How a piece of code ends. -/
inductive AX where
  | normal
  | exit (id : Nat)
  | ret
def AX.exitOf : AX → Exit
  | .normal => .normal
  | .exit id => .exit id
  | .ret => .ret
/-- Marks of blocks for deferred calls. -/
def MkR (μ : Mp) : List Nat → List Deferred → Prop
  | [], [] => True
  | k :: M, d :: D => (∃ g z, μ k = some (g, z) ∧ d = { target := .collected g, args := #[] }) ∧ MkR μ M D
  | _, _ => False
theorem MkR.mono {μ ν : Mp} (h : μ.le ν) : ∀ {M : List Nat} {D : List Deferred}, MkR μ M D → MkR ν M D
  | [], [], _ => trivial
  | k :: M, d :: D, ⟨⟨g, z, h1, h2⟩, h3⟩ => ⟨⟨g, z, h.sub _ _ h1, h2⟩, h3.mono h⟩
  | [], _ :: _, h => h.elim
  | _ :: _, [], h => h.elim
def RD (μ : Mp) : Option Nat → Option Nat → Prop
  | none, none => True
  | some l, some g => ∃ z, μ l = some (g, z)
  | _, _ => False
theorem RD.mono {μ ν : Mp} (h : μ.le ν) : ∀ {x y : Option Nat}, RD μ x y → RD ν x y
  | none, none, _ => trivial
  | some l, some g, ⟨z, h1⟩ => ⟨z, h.sub _ _ h1⟩
  | none, some _, h => h.elim
  | some _, none, h => h.elim
abbrev AS := Tri Value × AH × List Nat
abbrev AOuts := List (AX × AS)
def aloop (body : Tri Value → AH → List Nat → Option AOuts) : Nat → Tri Value → AH → List Nat → Option AOuts
  | 0, _, _, _ => none
  | f + 1, T, H, M => match body T H M with
    | some outs => abind (fun p => match p with
      | (.normal, T', H', M') => aloop body f T' H' M'
      | p => some [p]) outs
    | none => none
/-- What a piece of code is to do. -/
def CodeOk (P : Program) (n : Nat) (rd : Option Nat) (c : Code) (T : Tri Value) (H : AH) (M : List Nat) (outs : AOuts) : Prop :=
  ∀ (b0 : Base) (μ : Mp) (D : List Deferred) (a : Act) (w : World) (r : Option Nat) (mm : Nat) (Qx : Exit → Act → World → Prop), St μ H T n D b0 a w → MkR μ M D → RD μ rd r →
    (∀ p ∈ outs, ∀ ν D' a' w', μ.le ν → St ν p.2.2.1 p.2.1 n D' b0 a' w' → MkR ν p.2.2.2 D' → Qx p.1.exitOf a' w') → c.wpIn (fw r) mm P Qx a w
theorem aloop_ok {rd : Option Nat} {c : Code} {body : Tri Value → AH → List Nat → Option AOuts} (hb : ∀ T H M outs, body T H M = some outs → CodeOk P n rd c T H M outs) : ∀ (f : Nat) (T : Tri Value) (H : AH) (M : List Nat) (outs : AOuts), aloop body f T H M = some outs →
    ∀ (b0 : Base) (μ : Mp) (D : List Deferred) (a : Act) (w : World) (r : Option Nat) (mm : Nat) (Qx : Exit → Act → World → Prop), St μ H T n D b0 a w → MkR μ M D → RD μ rd r →
    (∀ p ∈ outs, ∀ ν D' a' w', μ.le ν → St ν p.2.2.1 p.2.1 n D' b0 a' w' → MkR ν p.2.2.2 D' → Qx p.1.exitOf a' w') → Code.roundsIn (fw r) mm P c Qx f a w
  | 0, _, _, _, _, e, _, _, _, _, _, _, _, _, _, _, _, _ => by cases e
  | f + 1, T, H, M, outs, e, b0, μ, D, a, w, r, mm, Qx, hs, hM, hr, hk => by
    rw [aloop] at e
    rw [roundsIn_succ]
    split at e
    · rename_i ps h1
      refine hb _ _ _ _ h1 b0 μ D a w r mm _ hs hM hr ?_
      rintro ⟨ax, T1, H1, M1⟩ hp ν D' a' w' hle hs' hM'
      obtain ⟨m1, h2, h3⟩ := abind_mem e _ hp
      cases ax with
      | normal => exact aloop_ok hb f T1 H1 M1 m1 h2 b0 ν D' a' w' r mm Qx hs' hM' (hr.mono hle) (fun q hq ξ D2 a2 w2 h4 => hk q (h3 q hq) ξ D2 a2 w2 (hle.trans h4))
      | exit id => cases h2; exact hk _ (h3 _ (by simp)) ν D' a' w' hle hs' hM'
      | ret => cases h2; exact hk _ (h3 _ (by simp)) ν D' a' w' hle hs' hM'
    · cases e
end
end AM
end Go.Proofs.YtdmbppgogdkpdaaGreatDoor
