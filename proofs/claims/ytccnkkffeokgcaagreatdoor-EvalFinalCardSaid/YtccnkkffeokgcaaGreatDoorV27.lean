/-
  The abstract machine: whole calls, and rounds. No condition.
-/
import Derived.Test.YtccnkkffeokgcaaGreatDoorVJ
namespace Go.Proofs.YtccnkkffeokgcaaGreatDoor
namespace AM
open Go.RowKit

section
variable {P : Program} {E : Env} {Q : Eqs}
def atmps : List Value → Nat → Tri Value → Tri Value
  | [], _, T => T
  | v :: l, i, T => atmps l (i + 1) (T.set 20 i v)
theorem atmps_get : ∀ (l : List Value) (i : Nat) (T : Tri Value) (t : Nat) (v : Value), i + l.length < 1048575 → (atmps l i T).get t = some v → (i ≤ t ∧ l[t - i]? = some v) ∨ (T.get t = some v ∧ (t < i ∨ i + l.length ≤ t))
  | [], i, T, t, v, _, h => .inr ⟨h, by simp; omega⟩
  | x :: l, i, T, t, v, hb, h => by
    rw [List.length_cons] at hb
    rcases atmps_get l (i + 1) _ t v (by omega) h with ⟨h1, h2⟩ | ⟨h1, h2⟩
    · refine .inl ⟨by omega, ?_⟩
      rw [show t - i = (t - (i + 1)) + 1 by omega]; exact h2
    · rw [Tri.get_set 20 T i t x (Nat.lt_of_le_of_lt (show i + 1 ≤ 1048575 by omega) (by decide))] at h1
      by_cases e : t = i
      · rw [if_pos e] at h1; cases h1
        exact .inl ⟨by omega, by rw [e, Nat.sub_self]; rfl⟩
      · rw [if_neg e] at h1
        exact .inr ⟨h1, by rw [List.length_cons]; omega⟩
def akill (H : AH) : List Nat → Option AH
  | [] => some H
  | k :: M => match H.t.get k with
    | some .dfr => akill (H.put k .dead) M
    | _ => none
def aresults (E : Env) (T : Tri Value) (H : AH) : List ResultVar → Option (List Value)
  | [] => some []
  | .tmp t :: rs => match T.get t, aresults E T H rs with
    | some v, some l => some (v :: l)
    | _, _ => none
  | .cell x t :: rs => match T.get x with
    | some p => match aload E H t p, aresults E T H rs with
      | some v, some l => some (v :: l)
      | _, _ => none
    | none => none
theorem aresults_ok {μ : Mp} {b : Base} {w : World} {H : AH} (hE : E.Ok P) (h : Rel μ H b w) {T : Tri Value} {tmps : Array Value} (hT : TR μ T.get tmps) : ∀ (rs : List ResultVar) (l : List Value), aresults E T H rs = some l →
    ∃ l', (rs.mapM (fun
      | .tmp t => pure (tmps.getD t undef)
      | .cell a t => do loadVar t (← asAddr (tmps.getD a undef)) : ResultVar → Sem Value)).run P w = .ok l' w ∧ LR μ l l'
  | [], l, e => by cases e; exact ⟨[], rfl, .nil μ⟩
  | .tmp t :: rs, l, e => by
    simp only [aresults] at e
    split at e
    · rename_i v m hv hm
      cases e
      obtain ⟨l', h1, h2⟩ := aresults_ok hE h hT rs m hm
      obtain ⟨v', h3, h4⟩ := hT t v hv
      refine ⟨v' :: l', ?_, .cons h4 h2⟩
      have hg : tmps.getD t undef = v' := by rw [Array.getD_eq_getD_getElem?, h3]; rfl
      rw [List.mapM_cons]
      simp only [Sem.run_bind, Sem.run_pure, Result.andThen_ok, h1, hg]
    · cases e
  | .cell x t :: rs, l, e => by
    simp only [aresults] at e
    split at e
    · rename_i p hp
      split at e
      · rename_i v m hv hm
        cases e
        obtain ⟨l', h1, h2⟩ := aresults_ok hE h hT rs m hm
        obtain ⟨p', h3, h4⟩ := hT x p hp
        obtain ⟨v', h5, h6⟩ := aload_addr (P := P) hE h h4 hv
        refine ⟨v' :: l', ?_, .cons h6 h2⟩
        have hg : tmps.getD x undef = p' := by rw [Array.getD_eq_getD_getElem?, h3]; rfl
        rw [List.mapM_cons]
        simp only [hg]
        rw [Sem.run_bind, h5]
        simp only [Sem.run_bind, Result.andThen_ok, h1, Sem.run_pure]
      · cases e
    · cases e
def aout (l : List Value) : Value := match l with
  | [v] => v
  | l => .tuple l.toArray
theorem aout_ok {μ : Mp} {b : Base} {w : World} {H : AH} (hE : E.Ok P) (h : Rel μ H b w) {T : Tri Value} {tmps : Array Value} (hT : TR μ T.get tmps) {fn : Func} {l : List Value} (e : aresults E T H fn.results.toList = some l) :
    ∃ v', (results fn tmps).run P w = .ok v' w ∧ VR μ (aout l) v' := by
  obtain ⟨l', h1, h2⟩ := aresults_ok hE h hT _ l e
  unfold results
  rw [Array.mapM_eq_mapM_toList]
  have hm : (List.toArray <$> fn.results.toList.mapM (fun
      | .tmp t => pure (tmps.getD t undef)
      | .cell a t => do loadVar t (← asAddr (tmps.getD a undef)) : ResultVar → Sem Value)).run P w = .ok l'.toArray w := by
    rw [Sem.run_map, h1]; rfl
  rw [Sem.run_bind]
  refine ⟨_, Eq.trans (congrArg (fun r => Result.andThen r (fun (a : Array Value) w' => Sem.run P (pure (if h : a.size = 1 then a[0] else Value.tuple a)) w')) hm) rfl, ?_⟩
  cases l with
  | nil =>
    have := h2.inv_nil
    subst this
    exact .tuple rfl (by simp)
  | cons v l =>
    obtain ⟨v', l2, rfl, hv, h3⟩ := h2.inv
    cases l with
    | nil =>
      have := h3.inv_nil
      subst this
      exact hv
    | cons u l =>
      obtain ⟨u', l4, rfl, hu, h4⟩ := h3.inv
      rw [dif_neg (by simp)]
      have := LR.cons hv (LR.cons hu h4)
      exact .tuple (this.toArray).1 (this.toArray).2
/-- A dead block may be written at will. -/
theorem Rel.wipe {μ : Mp} {H : AH} {b : Base} {w : World} (h : Rel μ H b w) {k : Nat} {c : Blk} (hk : H.t.get k = some c) (hown : c.own = true) {g s : Nat} (hm : μ k = some (g, s)) (o : Obj) : Rel μ (H.put k .dead) b (World.over w g o) := by
  have hd := h.kill hk
  have hlt := h.get_lt hk
  obtain ⟨g', s', e1, l1, l2⟩ := h.lies k c hk
  rw [hm] at e1; cases e1
  obtain ⟨o0, ho0, _⟩ := l1 (Blk.live_own hown)
  have hg : g < w.heap.size := (Array.getElem?_eq_some_iff.1 ho0).1
  refine ⟨h.os, h.tape, h.output, by simpa [World.over] using h.size, fun j hj => ?_, h.small, h.num, ?_, hd.apart, hd.ro⟩
  · rw [World.over_get _ _ hg, if_neg (fun (e : j = g) => l2 hown (by rw [← e]; exact hj))]; exact h.keep j hj
  · intro j d hj
    obtain ⟨g1, s1, m1, k1, k2⟩ := hd.lies j d hj
    refine ⟨g1, s1, m1, fun hl => ?_, k2⟩
    obtain ⟨o1, ho1, r1⟩ := k1 hl
    have hj' := hj
    rw [h.get_put hlt] at hj'
    by_cases e : j = k
    · rw [if_pos e] at hj'; cases hj'; simp [Blk.live] at hl
    · rw [if_neg e] at hj'
      have := h.apart k j c d hk hj' (fun e' => e e'.symm) hown hl g s g1 s1 hm m1
      exact ⟨o1, by rw [World.over_get _ _ hg, if_neg (fun e' => this e'.symm)]; exact ho1, r1⟩
theorem akill_ok {μ : Mp} {b : Base} {fn : Func} {tmps : Array Value} {R : Ending → World → Prop} {r : Option Nat} {mm : Nat} : ∀ (M : List Nat) (D : List Deferred) (H H' : AH) (w : World), akill H M = some H' → Rel μ H b w → MkR μ M D →
    (∀ w', Rel μ H' b w' → LeavesIn (fw r) mm P fn tmps R [] .returning w') → LeavesInM (fw r) mm P fn tmps R D .returning w
  | [], [], H, H', w, e, h, _, hk => by cases e; exact hk w h
  | k :: M, d :: D, H, H', w, e, h, ⟨⟨g, z, h1, h2⟩, h3⟩, hk => by
    simp only [akill] at e
    split at e
    · rename_i hd
      obtain ⟨g', s', e1, l1, _⟩ := h.lies k _ hd
      rw [h1] at e1; cases e1
      obtain ⟨o, ho, rfl⟩ := l1 rfl
      refine ⟨(fun hh => by cases hh), .inl ⟨g, World.over w g (.deferred none), by rw [h2], run_takeDeferred ho, ?_⟩⟩
      exact akill_ok M D _ H' _ e (h.wipe hd rfl h1 _) h3 hk
    · cases e
  | [], _ :: _, _, _, _, _, _, h, _ => h.elim
  | _ :: _, [], _, _, _, _, _, h, _ => h.elim
def afin (E : Env) (fn : Func) : AX × AS → Option Outs
  | (.exit _, _) => none
  | (_, T', H', M) => match akill H' M with
    | some H2 => match aresults E T' H2 fn.results.toList with
      | some l => some [(aout l, H2)]
      | none => none
    | none => none
def acallS (P : Program) (E : Env) (Q : Eqs) (call : ACall) (round : ARound) (loops : Nat) : ACall := fun f args H => match E.fn f with
  | some fn => match fn.body with
    | some c => bif Nat.ble args.length fn.ntmps && Nat.blt fn.ntmps 1048575 then (match acode P E Q call round fn.ntmps loops none c (atmps args 0 .nil) H [] with
      | some outs => abind (afin E fn) outs
      | none => none) else none
    | none => none
  | none => none
theorem acallS_ok (hE : E.Ok P) (hQ : Q.Ok P) (hm : P.follows .mixedOrders = true) {call : ACall} {round : ARound} (hC : CallOk P call) (hR : RoundOk P round) {loops : Nat} : CallOk P (acallS P E Q call round loops) := by
  intro w0 f l H outs μ args w e h hl
  unfold acallS at e
  split at e
  · rename_i fn hfn
    split at e
    · rename_i c hc
      cases hb : (Nat.ble l.length fn.ntmps && Nat.blt fn.ntmps 1048575) with
      | false => rw [hb] at e; cases e
      | true =>
        rw [hb, cond_true] at e
        rw [Bool.and_eq_true] at hb
        have h1 := Nat.le_of_ble_eq_true hb.1
        have h2 : fn.ntmps < 1048575 := Nat.le_of_ble_eq_true hb.2
        have hlen : l.length = args.size := by rw [hl.1]; simp
        obtain ⟨hf, _⟩ := hE.fn _ _ hfn
        refine callsIn_of_wp_marks hf hc trivial ?_
        have hst : St μ H (atmps l 0 .nil) fn.ntmps [] w0 { tmps := args ++ Array.replicate (fn.ntmps - args.size) undef, defers := [] } w := by
          refine ⟨h, fun t u hu => ?_, by simp; omega, rfl⟩
          rcases atmps_get l 0 .nil t u (by omega) hu with ⟨_, h3⟩ | ⟨h3, _⟩
          · rw [Nat.sub_zero] at h3
            have ht : t < l.length := (List.getElem?_eq_some_iff.1 h3).1
            have ht' : t < args.size := by omega
            refine ⟨args[t], ?_, hl.2 t u _ h3 (by simp [ht'])⟩
            show (args ++ _)[t]? = _
            rw [Array.getElem?_append_left ht', Array.getElem?_eq_getElem ht']
          · cases h3
        split at e
        · rename_i ps hcode
          refine acode_ok hE hQ hC hR hm c _ _ _ _ hcode w0 μ [] _ w none 0 _ hst trivial trivial ?_
          rintro ⟨ax, T', H1, M⟩ hp ν D' a' w' hle hs' hM'
          obtain ⟨m1, e1, e2⟩ := abind_mem e _ hp
          have fin : (match akill H1 M with
              | some H2 => match aresults E T' H2 fn.results.toList with
                | some l => some [(aout l, H2)]
                | none => none
              | none => none) = some m1 → LeavesInM (fw none) 0 P fn a'.tmps (Back μ w0 outs) a'.defers .returning w' := by
            intro he
            split at he
            · rename_i H2 hH2
              split at he
              · rename_i l2 hl2
                cases he
                have := akill_ok (P := P) (fn := fn) (tmps := a'.tmps) (R := Back μ w0 outs) (r := none) (mm := 0) M D' H1 H2 w' hH2 hs'.rel hM' (fun w2 hw2 => by
                  obtain ⟨v', h3, h4⟩ := aout_ok (P := P) hE hw2 hs'.tmps hl2
                  exact ⟨v', h3, (aout l2, H2), e2 _ (by simp), ν, v', rfl, hle, hw2, h4⟩)
                rw [hs'.defers]
                exact this
              · cases he
            · cases he
          cases ax with
          | normal => exact fin e1
          | ret => exact fin e1
          | exit id => cases e1
        · cases e
    · cases e
  · cases e
def aparams : List (Tmp × Value) → Tri Value → Tri Value
  | [], T => T
  | (p, v) :: l, T => aparams l (T.set 20 p v)
theorem aparams_ok {μ : Mp} {n : Nat} (hn : n < 1048575) : ∀ (ps : List Tmp) (l l' : List Value) (T : Tri Value) (tmps : Array Value), LR μ l l' → (∀ p ∈ ps, p < n) → tmps.size = n → TR μ T.get tmps →
    TR μ (aparams (ps.zip l) T).get ((ps.zip l').foldl (fun tmps (t, a) => tmps.setIfInBounds t a) tmps) ∧ ((ps.zip l').foldl (fun tmps (t, a) => tmps.setIfInBounds t a) tmps).size = n
  | [], l, l', T, tmps, _, _, hs, hT => by simpa [aparams] using ⟨hT, hs⟩
  | p :: ps, [], l', T, tmps, hl, _, hs, hT => by rw [hl.inv_nil]; simpa [aparams] using ⟨hT, hs⟩
  | p :: ps, v :: l, l', T, tmps, hl, hp, hs, hT => by
    obtain ⟨v', l2, rfl, hv, hl2⟩ := hl.inv
    rw [List.zip_cons_cons, List.zip_cons_cons, aparams, List.foldl_cons]
    have hpn := hp p (by simp)
    refine aparams_ok hn ps l l2 _ _ hl2 (fun q hq => hp q (by simp [hq])) (by simpa using hs) ?_
    intro t u hu
    rw [Tri.get_set 20 T p t v (Nat.lt_of_le_of_lt (Nat.succ_le_of_lt hpn) (Nat.lt_trans hn (by decide)))] at hu
    rw [Array.getElem?_setIfInBounds]
    by_cases e : t = p
    · rw [if_pos e] at hu; cases hu
      subst e
      exact ⟨v', by rw [if_pos rfl, if_pos (by rw [hs]; exact hpn)], hv⟩
    · rw [if_neg e] at hu
      rw [if_neg (fun h => e h.symm)]
      exact hT t u hu
def aroundE (l : Nat) : AX × AS → Option Outs
  | (ax, _, H, _) => match H.t.get l with
    | some (.loop _ _ T n ps as bd d) => match ax with
      | .normal => some [(.bool true, H.put l (.loop .ready none T n ps as bd d))]
      | .ret => some [(.bool false, H.put l (.loop .done (some .ret) T n ps as bd d))]
      | .exit id => some [(.bool false, H.put l (.loop .done (some (.exit id)) T n ps as bd d))]
    | _ => none
def aroundB (P : Program) (E : Env) (Q : Eqs) (call : ACall) (round : ARound) (loops n l : Nat) (bd : Code) : AX × AS → Option Outs
  | (.normal, T1, H1, []) => match H1.t.get l with
    | some (.loop .ready pend' T' n' ps' as' bd' d') => match acode P E Q call round n loops (some l) bd T1 (H1.put l (.loop .busy pend' T' n' ps' as' bd' d')) [] with
      | some outs => abind (aroundE l) outs
      | none => none
    | _ => none
  | _ => none
def aroundS (P : Program) (E : Env) (Q : Eqs) (call : ACall) (round : ARound) (loops : Nat) : ARound := fun l args H => match H.t.get l with
  | some (.loop .ready _ T n ps as bd _) => bif Nat.beq ps.toList.length args.length && ps.toList.all (fun p => Nat.blt p n) && Nat.blt n 1048575 then
      (match acode P E Q call round n loops (some l) as (aparams (ps.toList.zip args) T) H [] with
      | some outs => abind (aroundB P E Q call round loops n l bd) outs
      | none => none) else none
  | _ => none
theorem aroundS_ok (hE : E.Ok P) (hQ : Q.Ok P) (hm : P.follows .mixedOrders = true) {call : ACall} {round : ARound} (hC : CallOk P call) (hR : RoundOk P round) {loops : Nat} : RoundOk P (aroundS P E Q call round loops) := by
  intro w0 k l H outs μ args w g z e h hl hmk
  unfold aroundS at e
  split at e
  · rename_i pend T n ps as bd d hk
    cases hb : (Nat.beq ps.toList.length l.length && ps.toList.all (fun p => Nat.blt p n) && Nat.blt n 1048575) with
    | false => rw [hb] at e; cases e
    | true =>
      rw [hb, cond_true] at e
      simp only [Bool.and_eq_true] at hb
      have b1 := Nat.eq_of_beq_eq_true hb.1.1
      have b2 : ∀ p ∈ ps.toList, p < n := fun p hp => Nat.le_of_ble_eq_true (List.all_eq_true.1 hb.1.2 p hp)
      have b3 : n < 1048575 := Nat.le_of_ble_eq_true hb.2
      obtain ⟨fn, tmps, d', hw, hn, hT, hd'⟩ := h.loopAt hk hmk
      have hsz : args.size = ps.size := by have := hl.1; simp at this b1; omega
      refine ⟨fn, _, as, bd, run_yield hw hsz, ?_⟩
      have hpar := aparams_ok (μ := μ) b3 ps.toList l args.toList T tmps hl b2 hn hT
      have hfold : (ps.zip args).foldl (fun tmps (t, a) => tmps.setIfInBounds t a) tmps = (ps.toList.zip args.toList).foldl (fun tmps (t, a) => tmps.setIfInBounds t a) tmps := by
        rw [← Array.foldl_toList, Array.toList_zip]
      split at e
      · rename_i ps1 hc1
        apply roundIn_of_wpIn trivial
        show as.wpIn (fw (some g)) 0 P _ _ w
        refine acode_ok hE hQ hC hR hm as _ _ _ _ hc1 w0 μ [] _ w (some g) 0 _ ⟨h, by rw [hfold]; exact hpar.1, by rw [hfold]; exact hpar.2, rfl⟩ trivial ⟨z, hmk⟩ ?_
        rintro ⟨ax1, T1, H1, M1⟩ hp1 ν D1 a1 w1 q1 q2 q3
        obtain ⟨m1, e1, e2⟩ := abind_mem e _ hp1
        unfold aroundB at e1
        split at e1
        · rename_i T1' H1' heq
          cases heq
          split at e1
          · rename_i pend' T' n' ps' as' bd' dd hk1
            split at e1
            · rename_i ps3 hc3
              obtain ⟨fn1, tmps1, d1, hw1, hn1, hT1, hd1⟩ := q2.rel.loopAt hk1 (q1.sub _ _ hmk)
              refine ⟨_, run_beginRound hw1 rfl, ?_⟩
              have hrel : Rel ν (H1.put k (.loop .busy pend' T' n' ps' as' bd' dd)) w0 (World.over w1 g (.loop { state := .busy, pending := pend', fn := fn1, tmps := tmps1, params := ps', assign := as', body := bd', defers := d1 })) :=
                q2.rel.over hk1 rfl rfl (q1.sub _ _ hmk) ⟨fn1, tmps1, d1, rfl, hn1, hT1, hd1⟩
              show bd.wpIn (fw (some g)) 0 P _ a1 _
              have hD1 : D1 = [] := by cases D1 with | nil => rfl | cons x y => exact q3.elim
              refine acode_ok hE hQ hC hR hm bd _ _ _ _ hc3 w0 ν D1 _ _ (some g) 0 _ ⟨hrel, q2.tmps, q2.size, q2.defers⟩ (by rw [hD1]; trivial) ⟨z, q1.sub _ _ hmk⟩ ?_
              rintro ⟨ax, T3, H3, M3⟩ hp3 ξ D3 a3 w3 p1 p2 p3
              obtain ⟨m3, e3, e4⟩ := abind_mem e1 _ hp3
              have hm3 := p1.sub _ _ (q1.sub _ _ hmk)
              unfold aroundE at e3
              dsimp only at e3
              split at e3
              · rename_i st5 pend5 T5 n5 ps5 as5 bd5 d5 hk5
                obtain ⟨fn5, tmps5, d6, hw5, hn5, hT5, hd5⟩ := p2.rel.loopAt hk5 hm3
                have fin : ∀ jump st, st = (if jump.isNone then LoopState.ready else .done) → ∃ v' w', (Instr.endRound g jump).run P w3 = .ok v' w' ∧ v' = .bool jump.isNone ∧ Rel ξ (H3.put k (.loop st jump T5 n5 ps5 as5 bd5 d5)) w0 w' := by
                  rintro jump _ rfl
                  refine ⟨_, _, run_endRound jump hw5, rfl, ?_⟩
                  exact p2.rel.over hk5 rfl rfl hm3 ⟨fn5, tmps5, d6, rfl, hn5, hT5, hd5⟩
                split at e3
                · cases e3
                  obtain ⟨v', w', r1, rfl, r3⟩ := fin none .ready rfl
                  exact ⟨_, w', r1, (.bool true, H3.put k (.loop .ready none T5 n5 ps5 as5 bd5 d5)), e2 _ (e4 _ (by simp)), ξ, _, rfl, q1.trans p1, r3, .bool true⟩
                · cases e3
                  obtain ⟨v', w', r1, rfl, r3⟩ := fin (some .ret) .done rfl
                  exact ⟨_, w', r1, (.bool false, H3.put k (.loop .done (some .ret) T5 n5 ps5 as5 bd5 d5)), e2 _ (e4 _ (by simp)), ξ, _, rfl, q1.trans p1, r3, .bool false⟩
                · cases e3
                  rename_i id
                  obtain ⟨v', w', r1, rfl, r3⟩ := fin (some (.exit id)) .done rfl
                  exact ⟨_, w', r1, (.bool false, H3.put k (.loop .done (some (.exit id)) T5 n5 ps5 as5 bd5 d5)), e2 _ (e4 _ (by simp)), ξ, _, rfl, q1.trans p1, r3, .bool false⟩
              · cases e3
            · cases e1
          · cases e1
        · cases e1
      · cases e
  · cases e
/-- The calls of some functions hand back a row, and leave all else as it was. -/
def apick (joins : List Nat) (call : ACall) : ACall := fun f l H => bif joins.any (Nat.beq f) then ajoin call f l H else call f l H
theorem apick_ok {joins : List Nat} {call : ACall} (hC : CallOk P call) : CallOk P (apick joins call) := by
  intro w0 f l H outs μ args w e
  unfold apick at e
  cases hb : joins.any (Nat.beq f) with
  | true => rw [hb] at e; exact ajoin_ok hC w0 f l H outs μ args w e
  | false => rw [hb] at e; exact hC w0 f l H outs μ args w e
def am (P : Program) (E : Env) (Q : Eqs) (loops : Nat) (joins : List Nat) : Nat → ACall × ARound
  | 0 => (fun _ _ _ => none, fun _ _ _ => none)
  | d + 1 => (apick joins (acallS P E Q (am P E Q loops joins d).1 (am P E Q loops joins d).2 loops), aroundS P E Q (am P E Q loops joins d).1 (am P E Q loops joins d).2 loops)
theorem am_ok (hE : E.Ok P) (hQ : Q.Ok P) (hm : P.follows .mixedOrders = true) {loops : Nat} {joins : List Nat} : ∀ d, CallOk P (am P E Q loops joins d).1 ∧ RoundOk P (am P E Q loops joins d).2
  | 0 => ⟨(fun _ _ _ _ _ _ _ _ e => by cases e), (fun _ _ _ _ _ _ _ _ _ _ e => by cases e)⟩
  | d + 1 => ⟨apick_ok (acallS_ok hE hQ hm (am_ok hE hQ hm d).1 (am_ok hE hQ hm d).2), aroundS_ok hE hQ hm (am_ok hE hQ hm d).1 (am_ok hE hQ hm d).2⟩
end
end AM
end Go.Proofs.YtccnkkffeokgcaaGreatDoor
