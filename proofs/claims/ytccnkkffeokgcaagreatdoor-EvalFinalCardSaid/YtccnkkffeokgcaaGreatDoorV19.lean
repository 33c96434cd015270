/-
  The abstract machine: the operations of a statement in the order of the text. No condition.
-/
import Derived.Test.YtccnkkffeokgcaaGreatDoorV18
namespace Go.Proofs.YtccnkkffeokgcaaGreatDoor
namespace AM
open Go.RowKit

section
variable {P : Program} {E : Env} {Q : Eqs} {call : ACall} {n : Nat}
/-- Is an operation wanted? -/
def awant (all : List Oper) (T : Nat → Option Value) (o : Oper) : Option Bool := match o.guard with
  | none => some true
  | some (j, want) => match all[j]? with
    | some p => match p.dst with
      | some d => match T d with
        | some (.bool b) => some (b == want)
        | some (.tuple _) => some false
        | _ => none
      | none => none
    | none => none
theorem awant_ok {μ : Mp} {ops : Array Oper} {T : Nat → Option Value} {a : Act} {o : Oper} {b : Bool} (hT : TR μ T a.tmps) (e : awant ops.toList T o = some b) : Region.wanted o (yielded ops a.tmps) = b := by
  unfold awant at e
  unfold Region.wanted
  split at e
  · rename_i hg
    cases e
    rw [hg]
  · rename_i j want hg
    rw [hg]
    split at e
    · rename_i p hp
      split at e
      · rename_i d hd
        split at e
        · rename_i b' hb
          cases e
          obtain ⟨v', h1, h2⟩ := hT d _ hb
          cases h2
          have hp' : ops[j]? = some p := by simpa using hp
          simp only [yielded, hp', Option.bind_some, hd, h1]
          cases b' <;> cases want <;> rfl
        · rename_i x hb
          cases e
          obtain ⟨v', h1, h2⟩ := hT d _ hb
          cases h2
          have hp' : ops[j]? = some p := by simpa using hp
          simp only [yielded, hp', Option.bind_some, hd, h1]
          cases want <;> rfl
        · cases e
      · cases e
    · cases e
def aseq (P : Program) (E : Env) (Q : Eqs) (call : ACall) (round : ARound) (n : Nat) (all : List Oper) : List Oper → Tri Value → AH → Option (List (Tri Value × AH))
  | [], T, H => some [(T, H)]
  | o :: os, T, H => match awant all T.get o with
    | some true => match aoper P E Q call round T.get H o with
      | some outs => abind (fun p => match aput T n o.dst p.1 with
        | some T' => aseq P E Q call round n all os T' p.2
        | none => none) outs
      | none => none
    | some false => match aput T n o.dst undef with
      | some T' => aseq P E Q call round n all os T' H
      | none => none
    | none => none
theorem aseq_ok (hE : E.Ok P) (hQ : Q.Ok P) {w0 : Base} {D : List Deferred} {round : ARound} (hC : CallOk P call) (hR : RoundOk P round) {r : Option Nat} {m : Nat} {ops : Array Oper} {Qx : Exit → Act → World → Prop} : ∀ (os : List Oper) (k : Nat) (T : Tri Value) (H : AH) (outs : List (Tri Value × AH)) (μ : Mp) (a : Act) (w : World),
    ops.toList.drop k = os → aseq P E Q call round n ops.toList os T H = some outs → St μ H T n D w0 a w → (∀ p ∈ outs, ∀ ν a' w', μ.le ν → St ν p.2 p.1 n D w0 a' w' → Qx .normal a' w') → wpOpsIn (fw r) m P ops Qx (List.range' k os.length) a w
  | [], k, T, H, outs, μ, a, w, _, e, hs, hk => by
    simp only [aseq, Option.some.injEq] at e
    subst e
    exact hk (T, H) (by simp) μ a w (.refl μ) hs
  | o :: os, k, T, H, outs, μ, a, w, hd, e, hs, hk => by
    have ho : ops[k]? = some o := by
      have : ops.toList[k]? = some o := by
        have := List.getElem?_drop (xs := ops.toList) (i := k) (j := 0)
        rw [hd] at this
        simpa using this.symm
      simpa using this
    have hd' : ops.toList.drop (k + 1) = os := by
      rw [← List.drop_drop, hd]; rfl
    simp only [List.length_cons, List.range'_succ]
    rw [wpOpsIn_cons]
    simp only [wpOpIn, ho]
    rw [aseq] at e
    split at e
    · rename_i hw
      rw [if_pos (awant_ok hs.tmps hw)]
      split at e
      · rename_i ps hv
        refine aoper_ok hE hQ hC hR hs.rel hs.tmps hv ?_
        intro p hp ν v' w' hle hrel hvr
        obtain ⟨m1, h1, h2⟩ := abind_mem e p hp
        split at h1
        · rename_i T1 hT1
          obtain ⟨p1, p2, p3⟩ := aput_ok (hs.tmps.mono hle) hs.size hs.defers hvr hT1
          exact aseq_ok hE hQ hC hR os (k + 1) T1 p.2 m1 ν _ w' hd' h1 ⟨hrel, p1, p2, p3⟩ (fun q hq ξ a' w'' h3 h4 => hk q (h2 q hq) ξ a' w'' (hle.trans h3) h4)
        · cases h1
      · cases e
    · rename_i hw
      rw [if_neg (by rw [awant_ok hs.tmps hw]; decide)]
      refine ⟨fun _ _ => trivial, ?_⟩
      split at e
      · rename_i T1 hT1
        obtain ⟨p1, p2, p3⟩ := aput_ok hs.tmps hs.size hs.defers (cval_ok μ 3 undef rfl) hT1
        exact aseq_ok hE hQ hC hR os (k + 1) T1 H outs μ _ w hd' e ⟨hs.rel, p1, p2, p3⟩ hk
      · cases e
    · cases e
end
end AM
end Go.Proofs.YtccnkkffeokgcaaGreatDoor
