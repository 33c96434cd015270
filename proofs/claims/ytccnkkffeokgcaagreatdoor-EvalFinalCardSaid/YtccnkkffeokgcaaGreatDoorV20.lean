/-
  The abstract machine: blocks that are laid ahead of their turn. No condition.
-/
import Derived.Test.YtccnkkffeokgcaaGreatDoorV19
namespace Go.Proofs.YtccnkkffeokgcaaGreatDoor
namespace AM
open Go.RowKit

section
variable {P : Program} {E : Env} {Q : Eqs} {μ : Mp} {H : AH} {w : World} {T : Nat → Option Value} {a : Act}
/-- A base that keeps more. -/
structure Under (b0 b : Base) : Prop where
  os : b.w.os = b0.w.os
  tape : b.w.tape = b0.w.tape
  output : b.w.output = b0.w.output
  size : b0.w.heap.size ≤ b.w.heap.size
  keep : ∀ g, b0.B g → b.w.heap[g]? = b0.w.heap[g]?
  sub : ∀ g, b0.B g → b.B g
  L : b.L = b0.L
theorem Under.refl (b : Base) : Under b b := ⟨rfl, rfl, rfl, Nat.le_refl _, fun _ _ => rfl, fun _ h => h, rfl⟩
theorem Rel.back {b0 b : Base} (h : Rel μ H b w) (u : Under b0 b) : Rel μ H b0 w :=
  ⟨h.os.trans u.os, h.tape.trans u.tape, h.output.trans u.output, Nat.le_trans u.size h.size, fun g hg => (h.keep g (u.sub g hg)).trans (u.keep g hg), h.small, h.num,
   fun k c hk => let ⟨g, s, h1, h2, h3⟩ := h.lies k c hk; ⟨g, s, h1, h2, fun ho hB => h3 ho (u.sub g hB)⟩, h.apart, fun k c hk hl ho g s e => by rw [← u.L]; exact h.ro k c hk hl ho g s e⟩
/-- The mapping of a number that had none. -/
def Mp.at (μ : Mp) (id : Nat) (l : Nat × Nat) (hid : id < μ.N) (h0 : μ.f id = none) : Mp := ⟨fun k => if k = id then some l else μ k, μ.N, fun k hk => by
  show (if k = id then _ else _) = _
  rw [if_neg (by omega)]; exact μ.wf k hk, fun k hk => by
  show ∃ s', (if k = id then _ else _) = _
  rw [if_neg (fun (e : k = id) => μ.glob_lt (k := k) (by rw [e]; exact h0) hk)]; exact μ.gl k hk⟩
theorem Mp.at_self (μ : Mp) (id : Nat) (l : Nat × Nat) (hid : id < μ.N) (h0 : μ.f id = none) : (μ.at id l hid h0) id = some l := if_pos rfl
theorem Mp.at_ne (μ : Mp) {id k : Nat} (l : Nat × Nat) (hid : id < μ.N) (h0 : μ.f id = none) (hk : k ≠ id) : (μ.at id l hid h0) k = μ k := if_neg hk
theorem Mp.at_sub (μ : Mp) {id : Nat} (l : Nat × Nat) (hid : id < μ.N) (h0 : μ.f id = none) : μ.sub (μ.at id l hid h0) := fun k m e => by
  rw [Mp.at_ne μ l hid h0 (by rintro rfl; rw [show μ.f k = none from h0] at e; cases e)]; exact e
theorem Rel.remap {b : Base} (h : Rel μ H b w) {id : Nat} {l : Nat × Nat} (hid : id < μ.N) (h0 : μ.f id = none) : Rel (μ.at id l hid h0) H b w := by
  have hs := Mp.at_sub μ l hid h0
  have key : ∀ k c, H.t.get k = some c → (μ.at id l hid h0) k = μ k := fun k c hk => by
    obtain ⟨g, s, h1, _⟩ := h.lies k c hk
    rw [h1]; exact hs _ _ h1
  refine ⟨h.os, h.tape, h.output, h.size, h.keep, h.small, h.num, ?_, ?_, ?_⟩
  · intro k c hk
    obtain ⟨g, s, h1, h2, h3⟩ := h.lies k c hk
    exact ⟨g, s, hs _ _ h1, fun hl => let ⟨o, h4, h5⟩ := h2 hl; ⟨o, h4, h5.monoS hs⟩, h3⟩
  · intro k j c d hk hj hne ho hl g s g' s' e1 e2
    rw [key k c hk] at e1
    rw [key j d hj] at e2
    exact h.apart k j c d hk hj hne ho hl g s g' s' e1 e2
  · intro k c hk hl ho g s e1
    rw [key k c hk] at e1
    exact h.ro k c hk hl ho g s e1
/-- A base that keeps one block more: the one that is just laid. -/
def Base.lay (b : Base) (w : World) (o : Obj) (h : b.w.heap.size ≤ w.heap.size) : Base := ⟨w.alloc o, fun g => b.B g ∨ g = w.heap.size, b.L,
  fun g hg => by
    have hz : (w.alloc o).heap.size = w.heap.size + 1 := by simp
    rcases hg with hg | hg
    · have := b.bound g hg; omega
    · omega,
  fun g hg => by
    have hz : (w.alloc o).heap.size = w.heap.size + 1 := by simp
    have := b.lbound g hg; omega⟩
theorem Rel.low {b : Base} (h : Rel μ H b w) {k : Nat} {c : Blk} (hk : H.t.get k = some c) (hl : c.live = true) {g s : Nat} (e : μ k = some (g, s)) : g < w.heap.size := by
  obtain ⟨g', s', e', l1, _⟩ := h.lies k c hk
  rw [e] at e'; cases e'
  obtain ⟨o', ho, _⟩ := l1 hl
  exact (Array.getElem?_eq_some_iff.1 ho).1
theorem Rel.lay {b : Base} (h : Rel μ H b w) (o : Obj) : Rel μ H (b.lay w o h.size) (w.alloc o) := by
  refine ⟨rfl, rfl, rfl, Nat.le_refl _, fun g _ => rfl, h.small, h.num, ?_, h.apart, h.ro⟩
  intro k c hk
  obtain ⟨g, s, h1, h2, h3⟩ := h.lies k c hk
  refine ⟨g, s, h1, fun hl => ?_, fun ho hB => ?_⟩
  · obtain ⟨o', h4, h5⟩ := h2 hl
    exact ⟨o', by rw [Below.heap_alloc _ _ _ (h.low hk hl h1)]; exact h4, h5⟩
  · rcases hB with hB | hB
    · exact h3 ho hB
    · have := h.low hk (Blk.live_own ho) h1
      omega
theorem Under.lay {b0 b : Base} (u : Under b0 b) (h : Rel μ H b w) (o : Obj) : Under b0 (b.lay w o h.size) where
  os := h.os.trans u.os
  tape := h.tape.trans u.tape
  output := h.output.trans u.output
  size := Nat.le_trans u.size (Nat.le_trans h.size (by show w.heap.size ≤ (w.alloc o).heap.size; simp))
  keep := fun g hg => by
    have hlt : g < w.heap.size := Nat.lt_of_lt_of_le (b.bound g (u.sub g hg)) h.size
    show (w.alloc o).heap[g]? = _
    rw [Below.heap_alloc _ _ _ hlt, h.keep g (u.sub g hg)]; exact u.keep g hg
  sub := fun g hg => .inl (u.sub g hg)
  L := u.L
/-- A block that was kept comes into its own. -/
def Base.free (b : Base) (g : Nat) : Base := ⟨b.w, fun j => b.B j ∧ j ≠ g, b.L, fun j hj => b.bound j hj.1, b.lbound⟩
theorem Under.free {b0 b : Base} (u : Under b0 b) {g : Nat} (hg : ¬ b0.B g) : Under b0 (b.free g) := ⟨u.os, u.tape, u.output, u.size, u.keep, fun j hj => ⟨u.sub j hj, by rintro rfl; exact hg hj⟩, u.L⟩
theorem Rel.adopt {b : Base} (h : Rel μ H b w) {id g s : Nat} {o : Obj} {c : Blk} (hid : id < H.next) (hm : μ id = some (g, s)) (ho : w.heap[g]? = some o) (hr : BlkR μ s c o) (hc : c.own = true) (hB : b.B g) (hL : ¬ b.L g) :
    Rel μ (H.put id c) (b.free g) w := by
  refine ⟨h.os, h.tape, h.output, h.size, fun j hj => h.keep j hj.1, h.small, h.num, ?_, ?_, ?_⟩
  · intro k d hk
    rw [h.get_put hid] at hk
    by_cases e : k = id
    · rw [if_pos e] at hk; cases hk
      subst e
      exact ⟨g, s, hm, fun _ => ⟨o, ho, hr⟩, fun _ hx => hx.2 rfl⟩
    · rw [if_neg e] at hk
      obtain ⟨g1, s1, h1, h2, h3⟩ := h.lies k d hk
      exact ⟨g1, s1, h1, h2, fun ho hx => h3 ho hx.1⟩
  · have key : ∀ j d, H.t.get j = some d → d.live = true → ∀ g2 s2, μ j = some (g2, s2) → g ≠ g2 := by
      intro j d hj hl g2 s2 e2 eg
      subst eg
      cases hd : d.own with
      | true =>
        obtain ⟨g1, s1, h1, _, h3⟩ := h.lies j d hj
        rw [e2] at h1; cases h1
        exact h3 hd hB
      | false => exact hL (h.ro j d hj hl hd _ _ e2)
    intro k j d f hk hj hne hown hlive g1 s1 g2 s2 e1 e2
    rw [h.get_put hid] at hk hj
    by_cases e : k = id
    · rw [if_pos e] at hk; cases hk
      subst e
      rw [hm] at e1; cases e1
      rw [if_neg (fun e' => hne e'.symm)] at hj
      exact key j f hj hlive g2 s2 e2
    · rw [if_neg e] at hk
      by_cases e' : j = id
      · subst e'
        rw [hm] at e2; cases e2
        exact fun eg => key k d hk (Blk.live_own hown) g1 s1 e1 eg.symm
      · rw [if_neg e'] at hj
        exact h.apart k j d f hk hj hne hown hlive g1 s1 g2 s2 e1 e2
  · intro k d hk hl hd g1 s1 e1
    rw [h.get_put hid] at hk
    by_cases e : k = id
    · rw [if_pos e] at hk; cases hk; rw [hc] at hd; cases hd
    · rw [if_neg e] at hk
      exact h.ro k d hk hl hd g1 s1 e1
/-- What allocates. -/
def isAlloc : Op → Bool
  | .alloc _ | .box .. | .buildSlice .. | .makeMap .. | .makeSlice .. => true
  | _ => false
def abuildRow (E : Env) (t len : Nat) (ps : List (Nat × Value)) : Option (List Value × Nat) := match E.und t with
  | some (.slice el) => match E.info el with
    | some i => match i.zero with
      | some z =>
        let l := arep (bif Nat.beq (len * i.size) 0 then #[] else z.cells) (len * i.size)
        bif l.all (cval 6) && Nat.ble (len * i.size) 1048576 then (match afill (fun k => some (k * i.size, i.size)) l ps with
          | some r => some (r, el)
          | none => none) else none
      | none => none
    | none => none
  | _ => none
theorem abuildRow_ok (hE : E.Ok P) {t len : Nat} {ps : List (Nat × Value)} {ps' : Array (Nat × Value)} {r : List Value} {el : Nat} (hp : PR μ ps ps'.toList) (e : abuildRow E t len ps = some (r, el)) :
    ∃ r' : Array Value, LR μ r r'.toList ∧ (Instr.buildSlice t len ps').run P w = (do pure (.slice (some (← newRow el r')) len len) : Sem Value).run P w := by
  unfold abuildRow at e
  split at e
  · rename_i el hu
    split at e
    · rename_i i hi
      split at e
      · rename_i z hz
        dsimp only at e
        cases hc : ((arep (bif Nat.beq (len * i.size) 0 then #[] else z.cells) (len * i.size)).all (cval 6) && Nat.ble (len * i.size) 1048576) with
        | false => rw [hc] at e; cases e
        | true =>
          rw [hc, cond_true] at e
          rw [Bool.and_eq_true] at hc
          have hle := Nat.le_of_ble_eq_true hc.2
          split at e
          · rename_i r0 hr
            cases e
            obtain ⟨r', h1, h2⟩ := afill_ok (place' := fun k => some (k * i.size, i.size)) (fun k => rfl) ps ps'.toList _ _ ((Array.range (len * i.size)).map ((bif Nat.beq (len * i.size) 0 then #[] else z.cells)[· % (bif Nat.beq (len * i.size) 0 then #[] else z.cells).size]!)) hp (by rw [arep_eq]; exact LR.refl_of hc.1) hr
            refine ⟨r', h2, ?_⟩
            simp only [Instr.buildSlice, Sem.run_bind, run_und hE hu, run_size hE hi, Result.andThen_ok]
            rw [if_neg (by omega)]
            by_cases h0 : len * i.size = 0
            · rw [h0] at h1
              simp only [show Nat.beq 0 0 = true from rfl, cond_true] at h1
              rw [if_pos h0, h0]
              simp only [Sem.run_bind, Sem.run_pure, Result.andThen_ok, h1]
            · rw [beq_ne h0, cond_false] at h1
              rw [if_neg h0]
              simp only [Sem.run_bind, run_zero hE hi hz, Result.andThen_ok, Sem.run_pure, h1]
          · cases e
      · cases e
    · cases e
  · cases e
def amakeRow (E : Env) (t : Nat) : Value → Value → Option (List Value × Nat × Nat × Nat)
  | .int _ L, .int _ C => match E.und t with
    | some (.slice el) => match E.info el with
      | some i => match i.zero with
        | some z =>
          if 0 ≤ L ∧ L ≤ C ∧ C ≤ 1048576 ∧ i.bytes ≤ 1048576 then
            let l := arep (bif Nat.beq (C.toNat * i.size) 0 then #[] else z.cells) (C.toNat * i.size)
            bif l.all (cval 6) then some (l, el, L.toNat, C.toNat) else none
          else none
        | none => none
      | none => none
    | _ => none
  | _, _ => none
theorem amakeRow_ok (hE : E.Ok P) {t : Nat} {x x' y y' : Value} {r : List Value} {el L0 C0 : Nat} (hx : VR μ x x') (hy : VR μ y y') (e : amakeRow E t x y = some (r, el, L0, C0)) :
    ∃ r' : Array Value, LR μ r r'.toList ∧ (Instr.makeSlice t x' y').run P w = (do pure (.slice (some (← newRow el r')) L0 C0) : Sem Value).run P w := by
  unfold amakeRow at e
  split at e
  · rename_i k1 L k2 C
    cases hx; cases hy
    split at e
    · rename_i el hu
      split at e
      · rename_i i hi
        split at e
        · rename_i z hz
          split at e
          · rename_i hb
            obtain ⟨b1, b2, b3, b4⟩ := hb
            dsimp only at e
            cases hc : (arep (bif Nat.beq (C.toNat * i.size) 0 then #[] else z.cells) (C.toNat * i.size)).all (cval 6) with
            | false => rw [hc] at e; cases e
            | true =>
              rw [hc, cond_true] at e
              cases e
              obtain ⟨n, rfl⟩ : ∃ n : Nat, C = n := ⟨C.toNat, by omega⟩
              simp only [Int.toNat_natCast] at *
              have hmul : (i.bytes : Int) * (n : Int) ≤ 2 ^ 48 := by
                have h1 : i.bytes * n ≤ 1048576 * 1048576 := Nat.mul_le_mul b4 (by omega)
                have : ((i.bytes * n : Nat) : Int) ≤ 1099511627776 := by omega
                rw [Int.natCast_mul] at this
                omega
              refine ⟨(Array.range (n * i.size)).map ((bif Nat.beq (n * i.size) 0 then #[] else z.cells)[· % (bif Nat.beq (n * i.size) 0 then #[] else z.cells).size]!), by rw [arep_eq]; exact LR.refl_of hc, ?_⟩
              have w1 : IntKind.i64.wrap L = L := wrap_small b1 (by omega)
              have w2 : IntKind.i64.wrap (n : Int) = n := wrap_small (by omega) (by omega)
              simp only [Instr.makeSlice, asInt, asIntOf, Sem.run_bind, run_und hE hu, run_info hE hi, run_size hE hi, Result.andThen_ok, Sem.run_pure, w1, w2]
              rw [if_neg (by simp; omega)]
              simp only [Sem.run_bind, run_askRoom, Result.andThen_ok, Int.toNat_natCast, run_size hE hi]
              by_cases h0 : n * i.size = 0
              · rw [if_pos h0, h0]
                simp only [Sem.run_bind, Sem.run_pure, Result.andThen_ok]
                rfl
              · rw [if_neg h0, beq_ne h0]
                simp only [Sem.run_bind, run_zero hE hi hz, Result.andThen_ok, Sem.run_pure, cond_false]
          · cases e
        · cases e
      · cases e
    · cases e
  · cases e
def aallocB (E : Env) (T : Nat → Option Value) (id : Nat) : Op → Option (Value × Blk)
  | .alloc e => match E.info e with
    | some i => match i.zero with
      | some z => bif z.cells.toList.all (cval 6) then some (.pointer (some ⟨id, 0, none⟩), .cells z.cells.toList e true true) else none
      | none => none
    | none => none
  | .box e x => match aeval T x with
    | some v => some (.pointer (some ⟨id, 0, none⟩), .cells v.cells.toList e true true)
    | none => none
  | .buildSlice t n ps => match aparts T ps.toList with
    | some l => match abuildRow E t n l with
      | some (r, el) => bif Nat.blt n big then some (.slice (some ⟨id, 0, none⟩) n n, .cells r el true true) else none
      | none => none
    | none => none
  | .makeSlice t x y => match aeval T x, aeval T y with
    | some v, some u => match amakeRow E t v u with
      | some (r, el, L, C) => bif Nat.blt C big then some (.slice (some ⟨id, 0, none⟩) L C, .cells r el true true) else none
      | none => none
    | _, _ => none
  | .makeMap t r => match aopt T r with
    | some none => some (.map (some id), .map [] 0)
    | some (some (.int _ _)) => match E.und t with
      | some (.map _ _) => some (.map (some id), .map [] 0)
      | _ => none
    | _ => none
  | _ => none
theorem newCells {t : Nat} {c : List Value} {c' : Array Value} (hc : LR μ c c'.toList) : BlkR μ c'.size (.cells c t true true) (.cells c' t) :=
  ⟨c', (0, 0), t, rfl, rfl, fun _ => ⟨rfl, .inl rfl⟩, fun _ => by have := hc.1; simp at this; omega, by have := hc.1; simp at this; omega, fun i u hu => by
    have hi : i < c.length := by
      rcases Nat.lt_or_ge i c.length with k | k
      · exact k
      · rw [List.getElem?_eq_none k] at hu; cases hu
    have hi' : i < c'.size := by have := hc.1; simp at this; omega
    exact ⟨c'[i], Array.getElem?_eq_getElem hi', hc.2 i u _ hu (by simp [hi'])⟩⟩
theorem aallocB_ok (hE : E.Ok P) (ht : TR μ T a.tmps) {o : Oper} {id : Nat} {v : Value} {b : Blk} (e : aallocB E T id o.op = some (v, b)) :
    b.own = true ∧ (∀ c, o.op ≠ .defer c) ∧ ∃ ob s v', (execOp a.eval o).run P w = .ok (.value v') (w.alloc ob) ∧ BlkR μ s b ob ∧ ∀ ν : Mp, ν id = some (w.heap.size, s) → VR ν v v' := by
  have ev := fun {x : Operand} {v : Value} (e : aeval T x = some v) => aeval_ok ht e
  unfold execOp
  cases ho : o.op <;> rw [ho] at e <;> simp only [aallocB] at e <;> dsimp only
  case alloc t =>
    split at e
    · rename_i i hi
      split at e
      · rename_i z hz
        cases hb : z.cells.toList.all (cval 6) with
        | false => rw [hb] at e; cases e
        | true =>
          rw [hb, cond_true] at e
          cases e
          refine ⟨rfl, (fun c hc => by cases hc), .cells z.cells t, z.cells.size, .pointer (some ⟨w.heap.size, 0, none⟩), ?_, newCells (LR.refl_of hb), fun ν hν => .ptr 0 hν⟩
          simp only [Instr.alloc, Sem.run_bind, run_zero hE hi hz, Result.andThen_ok, newVar, newRow, newObj, Sem.run, Sem.run_pure]
          rfl
      · cases e
    · cases e
  case box t x =>
    split at e
    · rename_i u hu
      cases e
      refine ⟨rfl, (fun c hc => by cases hc), .cells (a.eval x).cells t, (a.eval x).cells.size, .pointer (some ⟨w.heap.size, 0, none⟩), ?_, newCells (ev hu).cells, fun ν hν => .ptr 0 hν⟩
      simp only [Sem.run_bind]
      rfl
    · cases e
  case buildSlice t n ps =>
    split at e
    · rename_i l hl
      split at e
      · rename_i r el hr
        cases hb : Nat.blt n big with
        | false => rw [hb] at e; cases e
        | true =>
          rw [hb, cond_true] at e
          cases e
          obtain ⟨r', h1, h2⟩ := abuildRow_ok (w := w) hE (aparts_ok ht _ l hl).map hr
          refine ⟨rfl, (fun c hc => by cases hc), .cells r' el, r'.size, .slice (some ⟨w.heap.size, 0, none⟩) n n, ?_, newCells h1, fun ν hν => .sl 0 n n hν (Nat.le_of_ble_eq_true hb)⟩
          simp only [Sem.run_bind, h2, Result.andThen_ok, newRow, newObj, Sem.run, Sem.run_pure]
          rfl
      · cases e
    · cases e
  case makeSlice t x y =>
    split at e
    · rename_i v1 u1 h1 h2
      split at e
      · rename_i r el L C hr
        cases hb : Nat.blt C big with
        | false => rw [hb] at e; cases e
        | true =>
          rw [hb, cond_true] at e
          cases e
          obtain ⟨r', h3, h4⟩ := amakeRow_ok (w := w) hE (ev h1) (ev h2) hr
          refine ⟨rfl, (fun c hc => by cases hc), .cells r' el, r'.size, .slice (some ⟨w.heap.size, 0, none⟩) L C, ?_, newCells h3, fun ν hν => .sl 0 L C hν (Nat.le_of_ble_eq_true hb)⟩
          simp only [Sem.run_bind, h4, Result.andThen_ok, newRow, newObj, Sem.run, Sem.run_pure]
          rfl
      · cases e
    · cases e
  case makeMap t r =>
    split at e
    · rename_i hr
      have := aopt_ok ht hr
      cases r with
      | none =>
        cases e
        refine ⟨rfl, (fun c hc => by cases hc), .map #[] 0, 0, .map (some w.heap.size), ?_, ⟨#[], rfl, rfl, by simp⟩, fun ν hν => .map hν⟩
        simp only [Option.map_none, Instr.makeMap, newObj, Sem.run_bind, Sem.run_pure, Sem.run, Result.andThen_ok]; rfl
      | some x => exact this.elim
    · rename_i k n hr
      have hr2 := aopt_ok ht hr
      cases r with
      | none => exact hr2.elim
      | some x =>
        split at e
        · rename_i ka kb hu
          simp only [OR, Option.map_some] at hr2
          have hx : a.eval x = .int k n := by generalize a.eval x = av at hr2; cases hr2; rfl
          cases e
          refine ⟨rfl, (fun c hc => by cases hc), .map #[] 0, 0, .map (some w.heap.size), ?_, ⟨#[], rfl, rfl, by simp⟩, fun ν hν => .map hν⟩
          simp only [Option.map_some, hx, Instr.makeMap, newObj, Sem.run_bind, Sem.run_pure, Sem.run, Result.andThen_ok, run_und hE hu, asInt, asIntOf]; rfl
        · cases e
    · cases e
  all_goals cases e
end
end AM
end Go.Proofs.YtccnkkffeokgcaaGreatDoor
