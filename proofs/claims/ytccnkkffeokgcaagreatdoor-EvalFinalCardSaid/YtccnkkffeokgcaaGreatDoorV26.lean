/-
  The abstract machine: code. No condition.
-/
import Derived.Test.YtccnkkffeokgcaaGreatDoorV25
import Derived.RangeFuncRecord
namespace Go.Proofs.YtccnkkffeokgcaaGreatDoor
namespace AM
open Go.RowKit

section
variable {P : Program} {E : Env} {Q : Eqs} {call : ACall} {round : ARound} {n : Nat}
def amark (H : AH) (M : List Nat) : Option Nat → Option (Nat × AH × List Nat)
  | none => bif Nat.blt (H.next + 1) 1099511627776 then some (H.next, H.alloc .dfr, H.next :: M) else none
  | some l => match H.t.get l with
    | some (.loop _ _ _ _ _ _ _ d) => some (d, H, M)
    | _ => none
def isBusy : LoopState → Bool
  | .busy => true
  | _ => false
def aend (H : AH) (l : Nat) (T : Tri Value) (M : List Nat) : Option (AX × AS) := match H.t.get l with
  | some (.loop st pend T' n ps as bd d) => bif isBusy st then none else match pend with
    | none => some (.normal, T, H.put l (.loop .exhausted none T' n ps as bd d), M)
    | some .ret => some (.ret, T, H.put l (.loop .exhausted (some .ret) T' n ps as bd d), M)
    | some (.exit id) => some (.exit id, T, H.put l (.loop .exhausted (some (.exit id)) T' n ps as bd d), M)
    | _ => none
  | _ => none
def arange (E : Env) (call : ACall) (n : Nat) (rd : Option Nat) (fo : Operand) (ps : Array Tmp) (as bd : Code) (T : Tri Value) (H : AH) (M : List Nat) : Option AOuts :=
  match amark H M rd with
  | none => none
  | some (d, H1, M1) => match aeval T.get fo with
    | some (.func (.func g) x y) => match E.fn g with
      | some fn => bif fn.body.isSome && Nat.blt (H1.next + 1) 1099511627776 then (match call g ((x.toList ++ [.func (.yield H1.next) #[] #[]]) ++ y.toList) (H1.alloc (.loop .ready none T n ps as bd d)) with
        | some outs => abind (fun p => match aend p.2 H1.next T M1 with
          | some q => some [q]
          | none => none) outs
        | none => none) else none
      | none => none
    | _ => none
theorem Rel.loopAt {μ : Mp} {H : AH} {b : Base} {w : World} (h : Rel μ H b w) {l : Nat} {st : LoopState} {pend : Option Code} {T : Tri Value} {n : Nat} {ps : Array Tmp} {as bd : Code} {d : Nat} (hk : H.t.get l = some (.loop st pend T n ps as bd d)) {g z : Nat} (hm : μ l = some (g, z)) :
    ∃ fn tmps d', w.heap[g]? = some (.loop { state := st, pending := pend, fn := fn, tmps := tmps, params := ps, assign := as, body := bd, defers := d' }) ∧ tmps.size = n ∧
      (∀ (t : Nat) (v : Value), T.get t = some v → ∃ v', tmps[t]? = some v' ∧ VR μ v v') ∧ ∃ y, μ d = some (d', y) := by
  obtain ⟨g', s', e1, l1, _⟩ := h.lies l _ hk
  rw [hm] at e1; cases e1
  obtain ⟨o, ho, fn, tmps, d', rfl, h2, h3, y, h4⟩ := l1 rfl
  exact ⟨fn, tmps, d', ho, h2, h3, y, h4⟩
theorem aend_ok {H H' : AH} {l : Nat} {T T' : Tri Value} {M M' : List Nat} {ax : AX} (e : aend H l T M = some (ax, T', H', M')) {b : Base} {μ : Mp} {w : World} (h : Rel μ H b w) {g z : Nat} (hm : μ l = some (g, z)) :
    T' = T ∧ M' = M ∧ ∃ jump w', (Instr.endLoop g).run P w = .ok jump w' ∧ Rel μ H' b w' ∧ ((ax = .normal ∧ jump = none) ∨ (ax = .ret ∧ jump = some .ret) ∨ ∃ id, ax = .exit id ∧ jump = some (.exit id)) := by
  unfold aend at e
  split at e
  · rename_i st pend T1 n1 ps as bd d hk
    obtain ⟨fn, tmps, d', h1, h2, h3, h4⟩ := h.loopAt hk hm
    cases hb : isBusy st with
    | true => rw [hb] at e; cases e
    | false =>
      rw [hb, cond_false] at e
      have hst : st ≠ .busy := by rintro rfl; cases hb
      have hrun := run_endLoop (P := P) h1 hst
      have hrel : Rel μ (H.put l (.loop .exhausted pend T1 n1 ps as bd d)) b (World.over w g (.loop { state := .exhausted, pending := pend, fn := fn, tmps := tmps, params := ps, assign := as, body := bd, defers := d' })) :=
        h.over hk rfl rfl hm ⟨fn, tmps, d', rfl, h2, h3, h4⟩
      split at e
      · cases e; exact ⟨rfl, rfl, _, _, hrun, hrel, .inl ⟨rfl, rfl⟩⟩
      · cases e; exact ⟨rfl, rfl, _, _, hrun, hrel, .inr (.inl ⟨rfl, rfl⟩)⟩
      · cases e; exact ⟨rfl, rfl, _, _, hrun, hrel, .inr (.inr ⟨_, rfl, rfl⟩)⟩
      · cases e
  · cases e
theorem arange_ok (hE : E.Ok P) (hC : CallOk P call) {rd : Option Nat} {fo : Operand} {ps : Array Tmp} {as bd : Code} {T : Tri Value} {H : AH} {M : List Nat} {outs : AOuts} (e : arange E call n rd fo ps as bd T H M = some outs) :
    CodeOk P n rd (.rangeFunc fo ps as bd) T H M outs := by
  intro b0 μ D a w r mm Qx hs hM hr hk
  unfold arange at e
  split at e
  · cases e
  · rename_i d H1 M1 hmk
    split at e
    · rename_i g x y hf
      split at e
      · rename_i fn hfn
        cases hb : (fn.body.isSome && Nat.blt (H1.next + 1) 1099511627776) with
        | false => rw [hb] at e; cases e
        | true =>
          rw [hb, cond_true] at e
          rw [Bool.and_eq_true] at hb
          have hn1 : H1.next + 1 < 1099511627776 := Nat.le_of_ble_eq_true hb.2
          split at e
          · rename_i outs3 hcall
            have enter : ∀ f, ∃ ν mark w1 l d', μ.le ν ∧ (Instr.enterLoop f a.tmps ps as bd r).run P w = .ok (l, mark) (w1.alloc (.loop { state := .ready, pending := none, fn := f, tmps := a.tmps, params := ps, assign := as, body := bd, defers := d' })) ∧ l = w1.heap.size ∧ Rel ν H1 b0 w1 ∧ (∃ z, ν d = some (d', z)) ∧ MkR ν M1 (mark ++ D) := by
              intro f
              cases rd with
              | none =>
                cases r with
                | some _ => exact hr.elim
                | none =>
                  simp only [amark] at hmk
                  cases hb2 : Nat.blt (H.next + 1) 1099511627776 with
                  | false => rw [hb2] at hmk; cases hmk
                  | true =>
                    rw [hb2] at hmk; cases hmk
                    have hn0 : H.next + 1 < 1099511627776 := Nat.le_of_ble_eq_true hb2
                    obtain ⟨ν, n1, n2, n3⟩ := hs.rel.alloc (by omega) (b := .dfr) (o := .deferred (some [])) (s := 0) rfl
                    exact ⟨ν, _, w.alloc (.deferred (some [])), _, _, n1, run_enterLoop_outer f a.tmps ps as bd, by simp, n3, ⟨0, n2⟩, ⟨⟨w.heap.size, 0, n2, rfl⟩, hM.mono n1⟩⟩
              | some l0 =>
                cases r with
                | none => exact hr.elim
                | some g0 =>
                  obtain ⟨z0, hz0⟩ := hr
                  simp only [amark] at hmk
                  split at hmk
                  · rename_i st pend T1 n1 ps1 as1 bd1 d1 hk1
                    cases hmk
                    obtain ⟨fn1, tmps1, d', h1, h2, h3, h4⟩ := hs.rel.loopAt hk1 hz0
                    refine ⟨μ, [], w, w.heap.size, d', .refl μ, ?_, rfl, hs.rel, h4, hM⟩
                    unfold Instr.enterLoop
                    simp only [Sem.run_bind, run_getLoop h1, run_newObj_alloc, Result.andThen, Sem.run_pure]
                  · cases hmk
            apply wpIn_rangeFunc
            intro f _
            obtain ⟨ν, mark, w1, l, d', q1, q2, q3, q4, ⟨zd, q5⟩, q6⟩ := enter f
            subst q3
            have hT1 := hs.tmps.mono q1
            obtain ⟨ξ, n1, n2, n3⟩ := q4.alloc (by omega) (b := .loop .ready none T n ps as bd d) (o := .loop { state := .ready, pending := none, fn := f, tmps := a.tmps, params := ps, assign := as, body := bd, defers := d' }) (s := 0)
              ⟨f, a.tmps, d', rfl, hs.size, fun t v hv => hT1 t v hv, zd, q5⟩
            have hv := aeval_ok hT1 hf
            let W := w1.alloc (.loop { state := .ready, pending := none, fn := f, tmps := a.tmps, params := ps, assign := as, body := bd, defers := d' })
            generalize hav : a.eval fo = av at hv
            cases hv with
            | @func _ _ x' _ y' h1 h2 h3 h4 =>
              have hargs : LR ξ ((x.toList ++ [.func (.yield H1.next) #[] #[]]) ++ y.toList) ((x' ++ #[Value.func (.yield w1.heap.size) #[] #[]]) ++ y').toList := by
                rw [Array.toList_append, Array.toList_append]
                exact (((AR.toList ⟨h1, h2⟩).mono n1).append (.cons (.yield n2) (.nil ξ))).append ((AR.toList ⟨h3, h4⟩).mono n1)
              refine ⟨w1.heap.size, mark, W, { target := .fn (.func g) y', args := x' ++ #[Value.func (.yield w1.heap.size) #[] #[]] }, W, g, (x' ++ #[Value.func (.yield w1.heap.size) #[] #[]]) ++ y', W, q2, ?_, (fun _ _ => trivial), ?_, (fun h => by cases h), ?_⟩
              · have hmap : Array.map a.eval #[Operand.const (.func (.yield w1.heap.size) #[] #[])] = #[Value.func (.yield w1.heap.size) #[] #[]] := by
                  apply Array.ext'
                  rw [Array.toList_map]
                  rfl
                simp only [resolve, hav, Deferred.ofValue, Sem.run_pure, hmap]
              · simp only [invoke, run_callFunc hE hfn hb.1]
              · refine (callsIn_fw (hC b0 g _ _ _ ξ _ _ hcall n3 hargs)).mono ?_
                rintro _ w3 ⟨p3, hp3, ζ, v', rfl, k1, k2, k3⟩
                obtain ⟨m3, e3, e4⟩ := abind_mem e p3 hp3
                split at e3
                case h_2 => cases e3
                rename_i q he3
                cases e3
                obtain ⟨ax, T', H', M'⟩ := q
                obtain ⟨rfl, rfl, jump, w4, j1, j2, j3⟩ := aend_ok (P := P) he3 k2 (k1.sub _ _ n2)
                refine ⟨jump, w4, j1, ?_⟩
                have hst : St ζ H' T' n (mark ++ a.defers) b0 { a with defers := mark ++ a.defers } w4 := ⟨j2, (hT1.mono n1).mono k1, hs.size, rfl⟩
                have hle := (q1.trans n1).trans k1
                have hmk' : MkR ζ M' (mark ++ a.defers) := by rw [hs.defers]; exact (q6.mono n1).mono k1
                have fin := hk (ax, T', H', M') (e4 _ (by simp)) ζ _ _ w4 hle hst hmk'
                rcases j3 with ⟨rfl, rfl⟩ | ⟨rfl, rfl⟩ | ⟨id, rfl, rfl⟩
                · exact fin
                · exact wpIn_ret fin
                · exact wpIn_exit fin
          · cases e
      · cases e
    · cases e
def ablock (id : Nat) : AOuts → AOuts
  | [] => []
  | (.exit j, S) :: l => (bif Nat.beq j id then (.normal, S) else (.exit j, S)) :: ablock id l
  | p :: l => p :: ablock id l
theorem ablock_mem {id : Nat} : ∀ {l : AOuts} {ax : AX} {S : AS}, (ax, S) ∈ l → ((∃ j, ax = .exit j ∧ (bif Nat.beq j id then (AX.normal, S) else (.exit j, S)) ∈ ablock id l) ∨ ((∀ j, ax ≠ .exit j) ∧ (ax, S) ∈ ablock id l))
  | [], _, _, h => by simp at h
  | (bx, R) :: l, ax, S, h => by
    rcases List.mem_cons.1 h with h | h
    · cases h
      cases bx with
      | exit j => exact .inl ⟨j, rfl, by simp [ablock]⟩
      | normal => exact .inr ⟨(fun j h => by cases h), by simp [ablock]⟩
      | ret => exact .inr ⟨(fun j h => by cases h), by simp [ablock]⟩
    · have hsub : ∀ p, p ∈ ablock id l → p ∈ ablock id ((bx, R) :: l) := fun p hp => by cases bx <;> exact List.mem_cons_of_mem _ hp
      rcases ablock_mem h with ⟨j, h1, h2⟩ | ⟨h1, h2⟩
      · exact .inl ⟨j, h1, hsub _ h2⟩
      · exact .inr ⟨h1, hsub _ h2⟩
def acode (P : Program) (E : Env) (Q : Eqs) (call : ACall) (round : ARound) (n f : Nat) (rd : Option Nat) : Code → Tri Value → AH → List Nat → Option AOuts
  | .skip, T, H, M | .label _, T, H, M => some [(.normal, T, H, M)]
  | .region _ ops draw, T, H, M => bif draw then (match adraw P E Q call round n ops.toList T H with
      | some (T', H') => some [(.normal, T', H', M)]
      | none => none) else (match aseq P E Q call round n ops.toList ops.toList T H with
      | some outs => some (outs.map fun p => (.normal, p.1, p.2, M))
      | none => none)
  | .seq x y, T, H, M => match acode P E Q call round n f rd x T H M with
    | some outs => abind (fun p => match p with
      | (.normal, T', H', M') => acode P E Q call round n f rd y T' H' M'
      | p => some [p]) outs
    | none => none
  | .cond c x y, T, H, M => match aeval T.get c with
    | some (.bool true) => acode P E Q call round n f rd x T H M
    | some (.bool false) => acode P E Q call round n f rd y T H M
    | some (.chan (some 2)) => (match acode P E Q call round n f rd x T H M, acode P E Q call round n f rd y T H M with
      | some o1, some o2 => some (o1 ++ o2)
      | _, _ => none)
    | _ => none
  | .block id x, T, H, M => match acode P E Q call round n f rd x T H M with
    | some outs => some (ablock id outs)
    | none => none
  | .loop x, T, H, M => aloop (acode P E Q call round n f rd x) f T H M
  | .exit id, T, H, M => some [(.exit id, T, H, M)]
  | .ret, T, H, M => some [(.ret, T, H, M)]
  | .rangeFunc fo ps as bd, T, H, M => arange E call n rd fo ps as bd T H M
  | _, _, _, _ => none
theorem acode_ok (hE : E.Ok P) (hQ : Q.Ok P) (hC : CallOk P call) (hR : RoundOk P round) (hm : P.follows .mixedOrders = true) {f : Nat} {rd : Option Nat} : ∀ (c : Code) (T : Tri Value) (H : AH) (M : List Nat) (outs : AOuts),
    acode P E Q call round n f rd c T H M = some outs → CodeOk P n rd c T H M outs := by
  intro c
  induction c with
  | skip =>
    intro T H M outs e b0 μ D a w r mm Qx hs hM hr hk
    simp only [acode, Option.some.injEq] at e
    subst e
    exact wpIn_skip (hk (.normal, T, H, M) (by simp) μ D a w (.refl μ) hs hM)
  | label l =>
    intro T H M outs e b0 μ D a w r mm Qx hs hM hr hk
    simp only [acode, Option.some.injEq] at e
    subst e
    exact wpIn_label (hk (.normal, T, H, M) (by simp) μ D a w (.refl μ) hs hM)
  | exit id =>
    intro T H M outs e b0 μ D a w r mm Qx hs hM hr hk
    simp only [acode, Option.some.injEq] at e
    subst e
    exact wpIn_exit (hk (.exit id, T, H, M) (by simp) μ D a w (.refl μ) hs hM)
  | ret =>
    intro T H M outs e b0 μ D a w r mm Qx hs hM hr hk
    simp only [acode, Option.some.injEq] at e
    subst e
    exact wpIn_ret (hk (.ret, T, H, M) (by simp) μ D a w (.refl μ) hs hM)
  | region id ops draw =>
    intro T H M outs e b0 μ D a w r mm Qx hs hM hr hk
    simp only [acode] at e
    cases draw with
    | true =>
      simp only [cond_true] at e
      split at e
      · rename_i T1 H1 h1
        cases e
        exact adraw_ok hE hQ hC hR hm h1 hs (fun ν a' w' h2 h3 => hk (.normal, T1, H1, M) (by simp) ν D a' w' h2 h3 (hM.mono h2))
      · cases e
    | false =>
      simp only [cond_false] at e
      split at e
      · rename_i ps h1
        cases e
        apply wpIn_region
        rw [List.range_eq_range']
        have := aseq_ok hE hQ (D := D) hC hR (r := r) (m := mm) (ops := ops) (Qx := Qx) ops.toList 0 T H ps μ a w rfl h1 hs (fun p hp ν a' w' h2 h3 => hk (.normal, p.1, p.2, M) (List.mem_map.2 ⟨p, hp, rfl⟩) ν D a' w' h2 h3 (hM.mono h2))
        rw [Array.length_toList] at this
        exact this
      · cases e
  | seq x y ihx ihy =>
    intro T H M outs e b0 μ D a w r mm Qx hs hM hr hk
    simp only [acode] at e
    apply wpIn_seq
    split at e
    · rename_i ps h1
      refine ihx _ _ _ _ h1 b0 μ D a w r mm _ hs hM hr ?_
      rintro ⟨ax, T1, H1, M1⟩ hp ν D1 a1 w1 q1 q2 q3
      obtain ⟨m1, h2, h3⟩ := abind_mem e _ hp
      cases ax with
      | normal => exact ihy _ _ _ _ h2 b0 ν D1 a1 w1 r mm Qx q2 q3 (hr.mono q1) (fun q hq ξ D2 a2 w2 q4 => hk q (h3 q hq) ξ D2 a2 w2 (q1.trans q4))
      | exit id => cases h2; exact hk (.exit id, T1, H1, M1) (h3 _ (by simp)) ν D1 a1 w1 q1 q2 q3
      | ret => cases h2; exact hk (.ret, T1, H1, M1) (h3 _ (by simp)) ν D1 a1 w1 q1 q2 q3
    · cases e
  | cond c x y ihx ihy =>
    intro T H M outs e b0 μ D a w r mm Qx hs hM hr hk
    simp only [acode] at e
    split at e
    · rename_i hc
      have hv := aeval_ok hs.tmps hc
      exact wpIn_cond_true (by generalize a.eval c = av at hv; cases hv; rfl) (ihx _ _ _ _ e b0 μ D a w r mm Qx hs hM hr hk)
    · rename_i hc
      have hv := aeval_ok hs.tmps hc
      exact wpIn_cond_false (by generalize a.eval c = av at hv; cases hv; rfl) (ihy _ _ _ _ e b0 μ D a w r mm Qx hs hM hr hk)
    · rename_i hc
      have hv := aeval_ok hs.tmps hc
      split at e
      · rename_i o1 o2 h1 h2
        cases e
        generalize hav : a.eval c = av at hv
        cases hv with
        | unkB b =>
          cases b with
          | true => exact wpIn_cond_true hav (ihx _ _ _ _ h1 b0 μ D a w r mm Qx hs hM hr (fun p hp => hk p (List.mem_append_left _ hp)))
          | false => exact wpIn_cond_false hav (ihy _ _ _ _ h2 b0 μ D a w r mm Qx hs hM hr (fun p hp => hk p (List.mem_append_right _ hp)))
      · cases e
    · cases e
  | block id x ihx =>
    intro T H M outs e b0 μ D a w r mm Qx hs hM hr hk
    simp only [acode] at e
    apply wpIn_block
    split at e
    · rename_i ps h1
      cases e
      refine ihx _ _ _ _ h1 b0 μ D a w r mm _ hs hM hr ?_
      rintro ⟨ax, S⟩ hp ν D1 a1 w1 q1 q2 q3
      rcases ablock_mem (id := id) hp with ⟨j, rfl, h2⟩ | ⟨h2, h3⟩
      · cases hj : Nat.beq j id with
        | true =>
          rw [hj] at h2
          have := Nat.eq_of_beq_eq_true hj
          subst this
          simp only [AX.exitOf, Exit.inBlock, if_true]
          exact hk (.normal, S) h2 ν D1 a1 w1 q1 q2 q3
        | false =>
          rw [hj] at h2
          have : ¬ j = id := by rintro rfl; rw [show Nat.beq j j = true from Nat.beq_refl j] at hj; cases hj
          simp only [AX.exitOf, Exit.inBlock, this, if_false]
          exact hk (.exit j, S) h2 ν D1 a1 w1 q1 q2 q3
      · cases ax with
        | normal => exact hk (.normal, S) h3 ν D1 a1 w1 q1 q2 q3
        | exit j => exact absurd rfl (h2 j)
        | ret => exact hk (.ret, S) h3 ν D1 a1 w1 q1 q2 q3
    · cases e
  | loop x ihx =>
    intro T H M outs e b0 μ D a w r mm Qx hs hM hr hk
    simp only [acode] at e
    exact wpIn_loop_rounds f (aloop_ok ihx f T H M outs e b0 μ D a w r mm Qx hs hM hr hk)
  | rangeFunc fo ps as bd _ _ =>
    intro T H M outs e
    simp only [acode] at e
    exact arange_ok hE hC e
  | scope x _ => intro T H M outs e; simp only [acode] at e; cases e
  | goto l => intro T H M outs e; simp only [acode] at e; cases e
  | refuse s => intro T H M outs e; simp only [acode] at e; cases e
end
end AM
end Go.Proofs.YtccnkkffeokgcaaGreatDoor
