/-
  The abstract machine: statements, and code but for ranges over functions. No condition.
-/
import Derived.Test.YtccnkkffeokgcaaGreatDoorV24
import Derived.LoopNIn
namespace Go.Proofs.YtccnkkffeokgcaaGreatDoor
namespace AM
open Go.RowKit

section
variable {P : Program} {E : Env} {Q : Eqs} {call : ACall} {round : ARound} {n : Nat}
theorem Rel.wide {μ : Mp} {H : AH} {b : Base} {w : World} (h : Rel μ H b w) (k : Nat) (hn : H.next + k < 2 ^ 40) : ∃ ν : Mp, μ.le ν ∧ (∀ j, ν j = μ j) ∧ Rel ν ⟨H.t, H.next + k⟩ b w := by
  let ν : Mp := ⟨μ.f, H.next + k, fun j hj => μ.wf j (by rw [h.num]; omega), μ.gl⟩
  have hs : μ.sub ν := fun _ _ e => e
  refine ⟨ν, ⟨by show μ.N ≤ H.next + k; rw [h.num]; omega, fun _ _ => rfl⟩, fun _ => rfl, ?_⟩
  exact ⟨h.os, h.tape, h.output, h.size, h.keep, hn, rfl, fun j c hj => let ⟨g, s, h1, h2, h3⟩ := h.lies j c hj; ⟨g, s, h1, fun hl => let ⟨o, h4, h5⟩ := h2 hl; ⟨o, h4, h5.monoS hs⟩, h3⟩, h.apart, h.ro⟩
theorem adraw_ok (hE : E.Ok P) (hQ : Q.Ok P) (hC : CallOk P call) (hR : RoundOk P round) (hm : P.follows .mixedOrders = true) {id : Nat} {ops : Array Oper} {T T' : Tri Value} {H H' : AH} (e : adraw P E Q call round n ops.toList T H = some (T', H')) {b0 : Base} {μ : Mp} {D : List Deferred} {a : Act} {w : World} (hs : St μ H T n D b0 a w) {r : Option Nat} {mm : Nat} {Qx : Exit → Act → World → Prop}
    (hk : ∀ ν a' w', μ.le ν → St ν H' T' n D b0 a' w' → Qx .normal a' w') : (Code.region id ops true).wpIn (fw r) mm P Qx a w := by
  unfold adraw at e
  cases hc : (dxOk (dxOf ops.toList 0 .nil) n ops.toList 0 && Nat.blt (H.next + ops.toList.length) 1099511627776 && Nat.blt n 1048575) with
  | false => rw [hc] at e; cases e
  | true =>
    rw [hc, cond_true] at e
    simp only [Bool.and_eq_true] at hc
    obtain ⟨⟨c1, c2⟩, c3⟩ := hc
    have c2 : H.next + ops.toList.length < 1099511627776 := Nat.le_of_ble_eq_true c2
    have c3 : n < 1048575 := Nat.le_of_ble_eq_true c3
    split at e
    · rename_i out hout
      cases hc : (eqNats out.ancs (ancsOf ops.toList []) && passB P E Q call round ops.toList (dxOf ops.toList 0 .nil) (out.effs.map (fun e => (e.before, e.ups, e.H)) ++ [(out.before, out.ups, out.H)]) out.before out.ancs T out.T ops.toList 0 && distinctB (out.effs.flatMap (·.ad) ++ out.pend)) with
      | false => rw [hc] at e; cases e
      | true =>
        rw [hc, cond_true] at e
        rw [Bool.and_eq_true, Bool.and_eq_true] at hc
        cases e
        have hA : ∀ j, (ancsOf ops.toList []).getD j 0 = out.A j := fun j => by rw [← eqNats_ok _ _ hc.1.1]; rfl
        have own := fun k o d => dxOk_ok (all := ops.toList) (dx := dxOf ops.toList 0 .nil) (n := n) ops.toList 0 rfl c1 k o d (Nat.zero_le k)
        have hP := passA_ok (fun k o d h1 h2 => (own k o d h1 h2).2) ops.toList 0 [] 0 0 [] T ⟨H.t, H.next + ops.toList.length⟩ out hA (T0 := T.get) (fun _ _ _ _ => rfl) rfl rfl (fun j b h => by simp at h) hout
        have hF : Drawn P E Q call round n ops.toList (dxOf ops.toList 0 .nil) T.get H.next out := by
          refine ⟨own, fun t k h => ?_, fun k o ho => hP.ops k o (Nat.zero_le k) ho, fun e he => (hP.effs e he).2.1, hP.pair, fun x hx => (hP.keys x hx).resolve_left (by simp), fun k o ho hr hw m u H1 h1 h2 h3 => ?_, distinctB_ok _ hc.2⟩
          · rcases dxOf_ok c3 ops.toList 0 .nil (fun o ho d hd => by
              obtain ⟨k, hk, he⟩ := List.getElem_of_mem ho
              exact (own k o d (by rw [List.getElem?_eq_getElem hk, he]) hd).1) t k h with h | ⟨o, _, h2, h3⟩
            · cases h
            · exact ⟨o, by simpa using h2, h3⟩
          · exact passB_ok ops.toList 0 rfl hc.1.2 k o (Nat.zero_le k) ho hr hw m u H1 h1 h2 h3
        obtain ⟨ν0, v1, v2, v3⟩ := hs.rel.drew.wide ops.toList.length (by omega)
        refine wpIn_region_any hm (adraw_any hE hQ hC hR hF (b0 := b0) (μ0 := μ) (D := D) (Nat.le_of_eq hs.rel.num) hk ops.size _ a _ (by simp) (by simp) ⟨ν0, 0, 0, _, out.effs, b0, ⟨v3, .refl b0, v1, Nat.le_refl _, hP.chain, ⟨[], rfl⟩, fun e he => .inr he, fun e he h => ?_, fun k h => by simp at h, fun k h => ?_, fun k hk _ => ?_, fun x _ h => ?_, fun x _ y _ h => ?_⟩, ⟨hs.size, hs.defers, fun t v ht hv => ?_, fun k o t v h => ?_, fun k t v _ _ hv => ?_⟩⟩)
        · have : ∀ k, ¬ listedS (Array.replicate ops.size false) k := fun k h => by
            unfold listedS at h
            rw [Array.getD_eq_getD_getElem?, Array.getElem?_replicate] at h
            split at h <;> simp at h
          exact this _ h
        · exact absurd h (by unfold listedS; rw [Array.getD_eq_getD_getElem?, Array.getElem?_replicate]; split <;> simp)
        · rw [v2]; exact μ.wf _ (by rw [hs.rel.num]; omega)
        · exact absurd h (by unfold listedS; rw [Array.getD_eq_getD_getElem?, Array.getElem?_replicate]; split <;> simp)
        · exact absurd h (by unfold listedS; rw [Array.getD_eq_getD_getElem?, Array.getElem?_replicate]; split <;> simp)
        · rw [hP.slots t (.inl ht)] at hv
          obtain ⟨v', q1, q2⟩ := hs.tmps t v hv
          exact ⟨v', q1, q2.mono v1⟩
        · exact absurd h (by unfold listedS; rw [Array.getD_eq_getD_getElem?, Array.getElem?_replicate]; split <;> simp)
        · obtain ⟨v', q1, q2⟩ := hs.tmps t v hv
          exact ⟨v', q1, q2.mono v1⟩
    · cases e
/-- How a piece of code ends. -/
inductive AX where
  | normal
  | exit (id : Nat)
  | ret
def AX.exitOf : AX → Exit
  | .normal => .normal
  | .exit id => .exit id
  | .ret => .ret
/-- Marks of blocks for deferred calls. -/
def MkR (μ : Mp) : List Nat → List Deferred → Prop
  | [], [] => True
  | k :: M, d :: D => (∃ g z, μ k = some (g, z) ∧ d = { target := .collected g, args := #[] }) ∧ MkR μ M D
  | _, _ => False
theorem MkR.mono {μ ν : Mp} (h : μ.le ν) : ∀ {M : List Nat} {D : List Deferred}, MkR μ M D → MkR ν M D
  | [], [], _ => trivial
  | k :: M, d :: D, ⟨⟨g, z, h1, h2⟩, h3⟩ => ⟨⟨g, z, h.sub _ _ h1, h2⟩, h3.mono h⟩
  | [], _ :: _, h => h.elim
  | _ :: _, [], h => h.elim
def RD (μ : Mp) : Option Nat → Option Nat → Prop
  | none, none => True
  | some l, some g => ∃ z, μ l = some (g, z)
  | _, _ => False
theorem RD.mono {μ ν : Mp} (h : μ.le ν) : ∀ {x y : Option Nat}, RD μ x y → RD ν x y
  | none, none, _ => trivial
  | some l, some g, ⟨z, h1⟩ => ⟨z, h.sub _ _ h1⟩
  | none, some _, h => h.elim
  | some _, none, h => h.elim
abbrev AS := Tri Value × AH × List Nat
abbrev AOuts := List (AX × AS)
def aloop (body : Tri Value → AH → List Nat → Option AOuts) : Nat → Tri Value → AH → List Nat → Option AOuts
  | 0, _, _, _ => none
  | f + 1, T, H, M => match body T H M with
    | some outs => abind (fun p => match p with
      | (.normal, T', H', M') => aloop body f T' H' M'
      | p => some [p]) outs
    | none => none
/-- What a piece of code is to do. -/
def CodeOk (P : Program) (n : Nat) (rd : Option Nat) (c : Code) (T : Tri Value) (H : AH) (M : List Nat) (outs : AOuts) : Prop :=
  ∀ (b0 : Base) (μ : Mp) (D : List Deferred) (a : Act) (w : World) (r : Option Nat) (mm : Nat) (Qx : Exit → Act → World → Prop), St μ H T n D b0 a w → MkR μ M D → RD μ rd r →
    (∀ p ∈ outs, ∀ ν D' a' w', μ.le ν → St ν p.2.2.1 p.2.1 n D' b0 a' w' → MkR ν p.2.2.2 D' → Qx p.1.exitOf a' w') → c.wpIn (fw r) mm P Qx a w
theorem aloop_ok {rd : Option Nat} {c : Code} {body : Tri Value → AH → List Nat → Option AOuts} (hb : ∀ T H M outs, body T H M = some outs → CodeOk P n rd c T H M outs) : ∀ (f : Nat) (T : Tri Value) (H : AH) (M : List Nat) (outs : AOuts), aloop body f T H M = some outs →
    ∀ (b0 : Base) (μ : Mp) (D : List Deferred) (a : Act) (w : World) (r : Option Nat) (mm : Nat) (Qx : Exit → Act → World → Prop), St μ H T n D b0 a w → MkR μ M D → RD μ rd r →
    (∀ p ∈ outs, ∀ ν D' a' w', μ.le ν → St ν p.2.2.1 p.2.1 n D' b0 a' w' → MkR ν p.2.2.2 D' → Qx p.1.exitOf a' w') → Code.roundsIn (fw r) mm P c Qx f a w
  | 0, _, _, _, _, e, _, _, _, _, _, _, _, _, _, _, _, _ => by cases e
  | f + 1, T, H, M, outs, e, b0, μ, D, a, w, r, mm, Qx, hs, hM, hr, hk => by
    rw [aloop] at e
    rw [roundsIn_succ]
    split at e
    · rename_i ps h1
      refine hb _ _ _ _ h1 b0 μ D a w r mm _ hs hM hr ?_
      rintro ⟨ax, T1, H1, M1⟩ hp ν D' a' w' hle hs' hM'
      obtain ⟨m1, h2, h3⟩ := abind_mem e _ hp
      cases ax with
      | normal => exact aloop_ok hb f T1 H1 M1 m1 h2 b0 ν D' a' w' r mm Qx hs' hM' (hr.mono hle) (fun q hq ξ D2 a2 w2 h4 => hk q (h3 q hq) ξ D2 a2 w2 (hle.trans h4))
      | exit id => cases h2; exact hk _ (h3 _ (by simp)) ν D' a' w' hle hs' hM'
      | ret => cases h2; exact hk _ (h3 _ (by simp)) ν D' a' w' hle hs' hM'
    · cases e
end
end AM
end Go.Proofs.YtccnkkffeokgcaaGreatDoor
