/-
  The abstract machine: what a closed call does, out of one reckoning. No condition.
-/
import Derived.Test.YtccnkkffeokgcaaGreatDoorV27
namespace Go.Proofs.YtccnkkffeokgcaaGreatDoor
namespace AM
open Go.RowKit

def triOf {α : Type} : List α → Nat → Tri α → Tri α
  | [], _, T => T
  | x :: l, i, T => triOf l (i + 1) (T.set 12 i x)
theorem triOf_get {α : Type} : ∀ (l : List α) (i : Nat) (T : Tri α) (k : Nat) (x : α), i + l.length < 4095 → (triOf l i T).get k = some x → (i ≤ k ∧ l[k - i]? = some x) ∨ T.get k = some x
  | [], i, T, k, x, _, h => .inr h
  | y :: l, i, T, k, x, hb, h => by
    rw [List.length_cons] at hb
    rcases triOf_get l (i + 1) _ k x (by omega) h with ⟨h1, h2⟩ | h1
    · refine .inl ⟨by omega, ?_⟩
      rw [show k - i = (k - (i + 1)) + 1 by omega]; exact h2
    · rw [Tri.get_set 12 T i k y (show i + 1 < 2 ^ 12 by omega)] at h1
      by_cases e : k = i
      · rw [if_pos e] at h1; cases h1
        exact .inl ⟨by omega, by rw [e, Nat.sub_self]; rfl⟩
      · rw [if_neg e] at h1; exact .inr h1
abbrev Exts := List (Nat × (Array Value → Sem Value))
def extAt : Exts → Nat → Option (Array Value → Sem Value)
  | [], _ => none
  | (g, e) :: xs, f => bif Nat.beq g f then some e else extAt xs f
def ExtsOk (P : Program) (xs : Exts) : Prop := ∀ x ∈ xs, ∀ (args : Array Value) (w : World), (callFunc x.1 args).run P w = (do pure (.value (← x.2 args)) : Sem Next).run P w
theorem extAt_mem : ∀ (xs : Exts) (f : Nat) (e : Array Value → Sem Value), extAt xs f = some e → (f, e) ∈ xs
  | [], _, _, h => by cases h
  | (g, e') :: xs, f, e, h => by
    rw [extAt] at h
    cases hb : Nat.beq g f with
    | true =>
      rw [hb] at h; cases h
      rw [Nat.eq_of_beq_eq_true hb]; simp
    | false =>
      rw [hb] at h
      exact List.mem_cons_of_mem _ (extAt_mem xs f e h)
theorem ext_run {P : Program} {f : Nat} {fn : Func} {e : Array Value → Sem Value} (h1 : P.funcs[f]? = some fn) (h2 : (fn.name == "runtime.NumGoroutine") = false) (h3 : fn.body.isNone = true) (h4 : (Extern.findNext fn).isNone = true) (h5 : Extern.find fn = some e) (args : Array Value) (w : World) :
    (callFunc f args).run P w = (do pure (.value (← e args)) : Sem Next).run P w := by
  have h4' : Extern.findNext fn = none := by cases h : Extern.findNext fn with | none => rfl | some _ => rw [h] at h4; cases h4
  simp only [callFunc, Sem.run_bind, program, Sem.run, Result.andThen_ok, h1, h2, Bool.false_eq_true, if_false, h3, if_true, mark, h4', h5]
def IdsOk (P : Program) (ids : List Nat) : Prop := ∀ f ∈ ids, ∀ (v : Value) (w : World), (callFunc f #[v]).run P w = .ok (.value v) w
theorem id_run {P : Program} {f : Nat} {fn : Func} (h1 : P.funcs[f]? = some fn) (h2 : (fn.name == "runtime.NumGoroutine") = false) (h3 : fn.body.isNone = true) (h4 : (Extern.findNext fn).isNone = true) (h5 : Extern.find fn = some Extern.AbiNoEscape.same) (v : Value) (w : World) :
    (callFunc f #[v]).run P w = .ok (.value v) w := ext_run h1 h2 h3 h4 h5 #[v] w
def envOf (P : Program) (xs : Exts) (ids : List Nat) : Env where
  info t := (triOf P.types.toList 0 .nil).get t
  und t := match (triOf P.types.toList 0 .nil).get t with
    | some i => match i.desc with
      | .named _ u => match (triOf P.types.toList 0 .nil).get u with
        | some j => some j.desc
        | none => none
      | d => some d
    | none => none
  fn f := (triOf P.funcs.toList 0 .nil).get f
  globs := 0
  ext := extAt xs
  idf g := ids.any (Nat.beq g)
def smallB (P : Program) : Bool := Nat.blt P.types.toList.length 4095 && Nat.blt P.funcs.toList.length 4095 && P.funcs.toList.all fun n => !(n.name == "runtime.NumGoroutine")
theorem envOf_ok {P : Program} {xs : Exts} {ids : List Nat} (h : smallB P = true) (hx : ExtsOk P xs) (hids : IdsOk P ids) : (envOf P xs ids).Ok P := by
  simp only [smallB, Bool.and_eq_true] at h
  obtain ⟨⟨h1, h2⟩, h3⟩ := h
  have h1 : P.types.toList.length < 4095 := Nat.le_of_ble_eq_true h1
  have h2 : P.funcs.toList.length < 4095 := Nat.le_of_ble_eq_true h2
  have ht : ∀ t i, (triOf P.types.toList 0 .nil).get t = some i → P.info? t = some i := fun t i e => by
    rcases triOf_get P.types.toList 0 .nil t i (by omega) e with ⟨_, h⟩ | h
    · rw [Nat.sub_zero] at h
      have h5 : P.types[t]? = some i := by simpa using h
      unfold Tables.info?
      rw [if_pos (Array.getElem?_eq_some_iff.1 h5).1]
      exact h5
    · cases h
  refine ⟨ht, fun t d e => ?_, fun f n e => ?_, fun f e h args w => hx _ (extAt_mem xs f e h) args w, fun f h v w => by
    obtain ⟨g, hg, he⟩ := List.any_eq_true.1 h
    rw [Nat.eq_of_beq_eq_true he]
    exact hids g hg v w⟩
  · simp only [envOf] at e
    split at e
    · rename_i i hi
      have h4 := ht t i hi
      unfold Program.underlying
      rw [h4]
      split at e
      · rename_i nm u hd
        split at e
        · rename_i j hj
          cases e
          obtain ⟨d1, d2, d3, d4, d5, d6, d7⟩ := i
          simp_all
        · cases e
      · rename_i d' hd
        cases e
        split
        · rename_i nm u _ heq
          cases heq
          exact absurd rfl (hd _ _)
        · rename_i heq
          cases heq
          rfl
        · rename_i heq; cases heq
    · cases e
  · rcases triOf_get P.funcs.toList 0 .nil f n (by omega) e with ⟨_, h⟩ | h
    · rw [Nat.sub_zero] at h
      refine ⟨by simpa using h, ?_⟩
      have := List.all_eq_true.1 h3 n (List.mem_of_getElem? h)
      simpa using this
    · cases h
def eqsOf (ts : List Nat) : Eqs := ⟨fun t => ts.any (Nat.beq t)⟩
def eqsB (P : Program) (ts : List Nat) : Bool := ts.all fun t => !P.stoodInHeld t && !P.eqGuardType P.depth t
theorem eqsOf_ok {P : Program} {ts : List Nat} (h : eqsB P ts = true) : (eqsOf ts).Ok P := by
  have key : ∀ t, (eqsOf ts).ok t = true → P.stoodInHeld t = false ∧ P.eqGuardType P.depth t = false := fun t ht => by
    obtain ⟨u, hu, he⟩ := List.any_eq_true.1 ht
    rw [Nat.eq_of_beq_eq_true he]
    have := List.all_eq_true.1 h u hu
    simpa using this
  exact ⟨fun t ht => (key t ht).1, fun t ht => (key t ht).2⟩
/-- Tables. -/
def tabsH (ts : List (Nat × List Value)) : AH := ⟨ts.foldl (fun t x => t.set 40 x.1 (.cells x.2 0 false false)) .nil, glob⟩
def TabsAt (w : World) (ts : List (Nat × List Value)) : Prop := ∀ x ∈ ts, ∀ (i : Nat) (v : Value), x.2[i]? = some v → w.cell? ⟨x.1, i, none⟩ = some v
def tabsB (ts : List (Nat × List Value)) : Bool := ts.all fun x => Nat.blt x.1 glob && x.2.all isScalar && !x.2.isEmpty
theorem tabsH_get : ∀ (ts : List (Nat × List Value)) (T : Tri Blk) (k : Nat) (b : Blk), (∀ x ∈ ts, x.1 < glob) → (ts.foldl (fun t x => t.set 40 x.1 (.cells x.2 0 false false)) T).get k = some b → T.get k = some b ∨ ∃ x ∈ ts, x.1 = k ∧ b = .cells x.2 0 false false
  | [], T, k, b, _, h => .inl h
  | x :: ts, T, k, b, hg, h => by
    rw [List.foldl_cons] at h
    rcases tabsH_get ts _ k b (fun y hy => hg y (by simp [hy])) h with h1 | ⟨y, h1, h2, h3⟩
    · rw [Tri.get_set 40 T x.1 k _ (by have := hg x (by simp); unfold glob at this; omega)] at h1
      by_cases e : k = x.1
      · rw [if_pos e] at h1; cases h1
        exact .inr ⟨x, by simp, e.symm, rfl⟩
      · rw [if_neg e] at h1; exact .inl h1
    · exact .inr ⟨y, by simp [h1], h2, h3⟩
def sizeAt (w : World) (k : Nat) : Nat := match w.heap[k]? with
  | some (.cells C _ _) => C.size
  | _ => 0
def mapAt (w : World) : Mp where
  f k := if k < glob then some (k, sizeAt w k) else none
  N := glob
  wf k hk := if_neg (by omega)
  gl k hk := ⟨sizeAt w k, if_pos hk⟩
def baseAt (w : World) : Base := ⟨w, fun g => g < w.heap.size, fun g => g < w.heap.size, fun _ h => h, fun _ h => h⟩
theorem rel_tabs {w : World} {ts : List (Nat × List Value)} (hb : tabsB ts = true) (hw : TabsAt w ts) : Rel (mapAt w) (tabsH ts) (baseAt w) w := by
  have hB : ∀ x ∈ ts, x.1 < glob ∧ (∀ v ∈ x.2, isScalar v = true) ∧ x.2 ≠ [] := fun x hx => by
    have := List.all_eq_true.1 hb x hx
    simp only [Bool.and_eq_true] at this
    exact ⟨Nat.le_of_ble_eq_true this.1.1, fun v hv => List.all_eq_true.1 this.1.2 v hv, fun e => by rw [e] at this; simp at this⟩
  have get : ∀ k b, (tabsH ts).t.get k = some b → ∃ x ∈ ts, x.1 = k ∧ b = .cells x.2 0 false false := fun k b h => by
    rcases tabsH_get ts .nil k b (fun x hx => (hB x hx).1) h with h1 | h1
    · cases h1
    · exact h1
  have blk : ∀ x ∈ ts, ∃ C e fr, w.heap[x.1]? = some (.cells C e fr) ∧ x.2.length ≤ C.size ∧ ∀ (i : Nat) (v : Value), x.2[i]? = some v → C[i]? = some v := fun x hx => by
    have h0 := (hB x hx).2.2
    have hl : 0 < x.2.length := List.length_pos_iff.2 h0
    have cell : ∀ (i : Nat) (v : Value), x.2[i]? = some v → ∃ C e fr, w.heap[x.1]? = some (.cells C e fr) ∧ C[i]? = some v := fun i v hv => by
      have := hw x hx i v hv
      unfold World.cell? at this
      split at this
      · rename_i C e fr hC
        exact ⟨C, e, fr, hC, this⟩
      · cases this
    obtain ⟨C, e, fr, h1, _⟩ := cell 0 _ (List.getElem?_eq_getElem hl)
    have all : ∀ (i : Nat) (v : Value), x.2[i]? = some v → C[i]? = some v := fun i v hv => by
      obtain ⟨C', e', fr', h3, h4⟩ := cell i v hv
      rw [h1] at h3; cases h3; exact h4
    refine ⟨C, e, fr, h1, ?_, all⟩
    have := all (x.2.length - 1) _ (List.getElem?_eq_getElem (by omega))
    have := (Array.getElem?_eq_some_iff.1 this).1
    omega
  refine ⟨rfl, rfl, rfl, Nat.le_refl _, fun _ _ => rfl, by show glob < 2 ^ 40; decide, rfl, fun k b h => ?_, fun k j b c h1 _ _ hown => ?_, fun k b h hl ho g s e => ?_⟩
  · obtain ⟨x, hx, rfl, rfl⟩ := get k b h
    obtain ⟨C, e, fr, h1, h2, h3⟩ := blk x hx
    refine ⟨x.1, C.size, ?_, fun _ => ⟨_, h1, C, fr, e, rfl, rfl, (fun e => by cases e), (fun e => by cases e), h2, fun i v hv => ⟨v, h3 i v hv, .of_scalar _ ((hB x hx).2.1 v (List.mem_of_getElem? hv))⟩⟩, fun h => by cases h⟩
    show (if x.1 < glob then some (x.1, sizeAt w x.1) else none) = _
    rw [if_pos (hB x hx).1]
    simp only [sizeAt, h1]
  · obtain ⟨x, hx, rfl, rfl⟩ := get k b h1
    cases hown
  · obtain ⟨x, hx, rfl, rfl⟩ := get k b h
    obtain ⟨C, e', fr, h1, h2, h3⟩ := blk x hx
    have : (if x.1 < glob then some (x.1, sizeAt w x.1) else none) = some (g, s) := e
    rw [if_pos (hB x hx).1] at this
    cases this
    exact (Array.getElem?_eq_some_iff.1 h1).1
def tells (r : Option Outs) : Bool := match r with
  | some outs => outs.all fun p => match p.1 with
    | .bool b => b
    | _ => false
  | none => false
/-- **A call of which no more need be known than the abstract values of its arguments, and that tells true**. -/
theorem am_tells_args {P : Program} {eqs : List Nat} {xs : Exts} {ts : List (Nat × List Value)} {loops d f : Nat} {joins ids : List Nat} {vs : List Value} {args : Array Value} (h1 : smallB P = true) (hx : ExtsOk P xs) (hi : IdsOk P ids) (h2 : eqsB P eqs = true) (h3 : P.follows .mixedOrders = true) (h4 : tabsB ts = true)
    (h : tells ((am P (envOf P xs ids) (eqsOf eqs) loops joins d).1 f vs (tabsH ts)) = true) (w : World) (hw : TabsAt w ts) (ha : LR (mapAt w) vs args.toList) : Calls P f args w fun e w' => e = .returned (.bool true) ∧ Below w.heap.size w w' := by
  have hok := am_ok (loops := loops) (joins := joins) (envOf_ok h1 hx hi) (eqsOf_ok h2) h3 d
  unfold tells at h
  split at h
  · rename_i outs he
    have := hok.1 (baseAt w) f vs (tabsH ts) outs (mapAt w) args w he (rel_tabs h4 hw) ha
    refine (callsIn_wide (n := 0)).1 (CallsIn.mono (callsIn_fw (r' := none) this) ?_)
    rintro _ w' ⟨p, hp, ν, v', rfl, _, k2, k3⟩
    have hb := List.all_eq_true.1 h p hp
    refine ⟨?_, k2.os, k2.tape, k2.output, k2.size, fun k hk => k2.keep k hk⟩
    split at hb
    · rename_i b hb2
      subst hb
      rw [hb2] at k3
      cases k3
      rfl
    · cases hb
  · cases h
/-- **A closed call that tells true**. -/
theorem am_tells {P : Program} {eqs : List Nat} {xs : Exts} {ts : List (Nat × List Value)} {loops d f : Nat} {joins ids : List Nat} (h1 : smallB P = true) (hx : ExtsOk P xs) (hi : IdsOk P ids) (h2 : eqsB P eqs = true) (h3 : P.follows .mixedOrders = true) (h4 : tabsB ts = true)
    (h : tells ((am P (envOf P xs ids) (eqsOf eqs) loops joins d).1 f [] (tabsH ts)) = true) (w : World) (hw : TabsAt w ts) : Calls P f #[] w fun e w' => e = .returned (.bool true) ∧ Below w.heap.size w w' := by
  have hok := am_ok (loops := loops) (joins := joins) (envOf_ok h1 hx hi) (eqsOf_ok h2) h3 d
  unfold tells at h
  split at h
  · rename_i outs he
    have := hok.1 (baseAt w) f [] (tabsH ts) outs (mapAt w) #[] w he (rel_tabs h4 hw) (.nil _)
    refine (callsIn_wide (n := 0)).1 (CallsIn.mono (callsIn_fw (r' := none) this) ?_)
    rintro _ w' ⟨p, hp, ν, v', rfl, _, k2, k3⟩
    have hb := List.all_eq_true.1 h p hp
    refine ⟨?_, k2.os, k2.tape, k2.output, k2.size, fun k hk => k2.keep k hk⟩
    split at hb
    · rename_i b hb2
      subst hb
      rw [hb2] at k3
      cases k3
      rfl
    · cases hb
  · cases h
end AM
end Go.Proofs.YtccnkkffeokgcaaGreatDoor
