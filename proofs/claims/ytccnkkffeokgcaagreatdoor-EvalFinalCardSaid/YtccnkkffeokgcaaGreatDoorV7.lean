/-
  The abstract machine's operations, fourth part: slices are made and cut; maps are made; lengths. No condition.
-/
import Derived.Test.YtccnkkffeokgcaaGreatDoorV6
import Derived.IntWalk
namespace Go.Proofs.YtccnkkffeokgcaaGreatDoor
namespace AM
open Go.RowKit

theorem wrap_small {i : Int} (h0 : 0 ≤ i) (h1 : i ≤ 1099511627776) : IntKind.i64.wrap i = i := Go.IntWalk.i64_in i (by omega)
section
variable {P : Program} {E : Env} {μ : Mp} {H : AH} {w0 : Base} {w : World}
def amakeSlice (E : Env) (H : AH) (t : Nat) : Value → Value → Option (Value × AH)
  | .int _ L, .int _ C => match E.und t with
    | some (.slice el) => match E.info el with
      | some i => match i.zero with
        | some z =>
          if 0 ≤ L ∧ L ≤ C ∧ C ≤ 1048576 ∧ i.bytes ≤ 1048576 then
            let l := arep (bif Nat.beq (C.toNat * i.size) 0 then #[] else z.cells) (C.toNat * i.size)
            bif l.all (cval 6) then arow H el l L.toNat C.toNat else none
          else none
        | none => none
      | none => none
    | _ => none
  | _, _ => none
theorem amakeSlice_ok (hE : E.Ok P) (h : Rel μ H w0 w) {t : Nat} {x x' y y' v : Value} {H' : AH} (hx : VR μ x x') (hy : VR μ y y') (e : amakeSlice E H t x y = some (v, H')) :
    GotV P (Instr.makeSlice t x' y') μ w0 w v H' := by
  unfold amakeSlice at e
  split at e
  · rename_i k1 L k2 C
    cases hx; cases hy
    split at e
    · rename_i el hu
      split at e
      · rename_i i hi
        split at e
        · rename_i z hz
          split at e
          · rename_i hb
            obtain ⟨b1, b2, b3, b4⟩ := hb
            dsimp only at e
            cases hc : (arep (bif Nat.beq (C.toNat * i.size) 0 then #[] else z.cells) (C.toNat * i.size)).all (cval 6) with
            | false => rw [hc] at e; cases e
            | true =>
              rw [hc, cond_true] at e
              obtain ⟨n, rfl⟩ : ∃ n : Nat, C = n := ⟨C.toNat, by omega⟩
              simp only [Int.toNat_natCast] at *
              have hmul : (i.bytes : Int) * (n : Int) ≤ 2 ^ 48 := by
                have h1 : i.bytes * n ≤ 1048576 * 1048576 := Nat.mul_le_mul b4 (by omega)
                have : ((i.bytes * n : Nat) : Int) ≤ 1099511627776 := by omega
                rw [Int.natCast_mul] at this
                omega
              have hg := arow_ok (P := P) h (c' := (Array.range (n * i.size)).map ((bif Nat.beq (n * i.size) 0 then #[] else z.cells)[· % (bif Nat.beq (n * i.size) 0 then #[] else z.cells).size]!)) (by rw [arep_eq]; exact LR.refl_of hc) e
              obtain ⟨ν, v', w', r1, r2⟩ := hg
              refine ⟨ν, v', w', ?_, r2⟩
              rw [← r1]
              have w1 : IntKind.i64.wrap L = L := wrap_small b1 (by omega)
              have w2 : IntKind.i64.wrap (n : Int) = n := wrap_small (by omega) (by omega)
              simp only [Instr.makeSlice, asInt, asIntOf, Sem.run_bind, run_und hE hu, run_info hE hi, run_size hE hi, Result.andThen_ok, Sem.run_pure, w1, w2]
              rw [if_neg (by simp; omega)]
              simp only [Sem.run_bind, run_askRoom, Result.andThen_ok, Int.toNat_natCast, run_size hE hi]
              by_cases h0 : n * i.size = 0
              · rw [if_pos h0, h0]
                simp only [Sem.run_bind, Sem.run_pure, Result.andThen_ok]
                rfl
              · rw [if_neg h0, beq_ne h0]
                simp only [Sem.run_bind, run_zero hE hi hz, Result.andThen_ok, Sem.run_pure, cond_false]
          · cases e
        · cases e
      · cases e
    · cases e
  · cases e
/-- A bound of a slice expression. -/
def abnd (d lim : Nat) : Option Value → Option Nat
  | none => some d
  | some (.int _ i) => if 0 ≤ i ∧ i ≤ (lim : Int) then some i.toNat else none
  | some _ => none
def OR (μ : Mp) : Option Value → Option Value → Prop
  | none, none => True
  | some v, some u => VR μ v u
  | _, _ => False
theorem abnd_ok {d lim lim' b : Nat} {x x' : Option Value} (hx : OR μ x x') (hl : lim ≤ lim') (e : abnd d lim x = some b) (code : BoundsCode) :
    (x = none ∧ x' = none ∧ b = d) ∨ ∃ v', x' = some v' ∧ x ≠ none ∧ b ≤ lim ∧ (Instr.sliceBound v' lim' code).run P w = .ok b w := by
  cases x with
  | none =>
    cases x' with
    | none => left; cases e; exact ⟨rfl, rfl, rfl⟩
    | some v => exact hx.elim
  | some v =>
    cases x' with
    | none => exact hx.elim
    | some v' =>
      right
      simp only [OR] at hx
      cases hx with
      | int k i =>
        simp only [abnd] at e
        split at e
        · rename_i hb
          cases e
          refine ⟨_, rfl, by simp, by omega, ?_⟩
          simp only [Instr.sliceBound, asIntOf, Sem.run_bind, Sem.run_pure, Result.andThen_ok]
          rw [if_pos (by omega)]
          rfl
        · cases e
      | _ => simp [abnd] at e
/-- The bounds of a slice expression: l, h, m. -/
def abounds (n c : Nat) (lo hi mx : Option Value) : Option (Nat × Nat × Nat) := match abnd c c mx with
  | some m => match hi, mx with
    | none, some _ => none
    | _, _ => match abnd n m hi with
      | some h => match abnd 0 h lo with
        | some l => some (l, h, m)
        | none => none
      | none => none
  | none => none
theorem abounds_ok {sl : Bool} {n c c' l h m : Nat} {lo lo' hi hi' mx mx' : Option Value} (hlo : OR μ lo lo') (hhi : OR μ hi hi') (hmx : OR μ mx mx') (hc : c ≤ c') (e : abounds n c lo hi mx = some (l, h, m)) :
    (Instr.sliceBounds sl n c' lo' hi' mx').run P w = .ok (l, h, if mx.isSome then m else c') w ∧ (mx = none → m = c) ∧ (mx ≠ none → m ≤ c) ∧ (lo = none → l = 0) ∧ (lo ≠ none → l ≤ h) ∧ (hi = none → h = n) ∧ (hi ≠ none → h ≤ m) := by
  unfold abounds at e
  split at e
  · rename_i m0 hm
    split at e
    · cases e
    · rename_i hnm
      split at e
      · rename_i h0 hh
        split at e
        · rename_i l0 hl
          cases e
          have A := fun code => abnd_ok (P := P) (w := w) (μ := μ) hmx hc hm code
          rcases A .slice3Acap with ⟨rfl, rfl, rfl⟩ | ⟨vm, rfl, m1, m2, _⟩
          · have B := fun code => abnd_ok (P := P) (w := w) (μ := μ) hhi (Nat.le_trans (Nat.le_refl _) hc) hh code
            rcases B .sliceAcap with ⟨rfl, rfl, rfl⟩ | ⟨vh, rfl, h1, h2, _⟩
            · have C := fun code => abnd_ok (P := P) (w := w) (μ := μ) hlo (Nat.le_refl _) hl code
              rcases C .sliceB with ⟨rfl, rfl, rfl⟩ | ⟨vl, rfl, l1, l2, l3⟩
              · refine ⟨?_, by simp, by simp, by simp, by simp, by simp, by simp⟩
                simp [Instr.sliceBounds]
              · refine ⟨?_, by simp, by simp, fun e => (l1 e).elim, fun _ => l2, by simp, by simp⟩
                simp [Instr.sliceBounds, l3]
            · have C := fun code => abnd_ok (P := P) (w := w) (μ := μ) hlo (Nat.le_refl _) hl code
              have b3 : ∀ code, (Instr.sliceBound vh c' code).run P w = .ok h w := fun code => by
                rcases B code with ⟨hn, _⟩ | ⟨v2, e2, _, _, r2⟩
                · exact (h1 hn).elim
                · cases e2; exact r2
              rcases C .sliceB with ⟨rfl, rfl, rfl⟩ | ⟨vl, rfl, l1, l2, l3⟩
              · refine ⟨?_, by simp, by simp, by simp, by simp, fun e => (h1 e).elim, fun _ => h2⟩
                simp [Instr.sliceBounds, b3]
              · refine ⟨?_, by simp, by simp, fun e => (l1 e).elim, fun _ => l2, fun e => (h1 e).elim, fun _ => h2⟩
                simp [Instr.sliceBounds, b3, l3]
          · have a3 : ∀ code, (Instr.sliceBound vm c' code).run P w = .ok m w := fun code => by
              rcases A code with ⟨hn, _⟩ | ⟨v2, e2, _, _, r2⟩
              · exact (m1 hn).elim
              · cases e2; exact r2
            have B := fun code => abnd_ok (P := P) (w := w) (μ := μ) hhi (Nat.le_refl m) hh code
            have C := fun code => abnd_ok (P := P) (w := w) (μ := μ) hlo (Nat.le_refl _) hl code
            obtain ⟨um, rfl⟩ := Option.ne_none_iff_exists'.1 m1
            rcases B .slice3B with ⟨rfl, rfl, rfl⟩ | ⟨vh, rfl, h1, h2, h3⟩
            · exact (hnm _ rfl rfl).elim
            · rcases C .slice3C with ⟨rfl, rfl, rfl⟩ | ⟨vl, rfl, l1, l2, l3⟩
              · refine ⟨?_, by simp, fun _ => m2, by simp, by simp, fun e => (h1 e).elim, fun _ => h2⟩
                simp [Instr.sliceBounds, a3, h3]
              · refine ⟨?_, by simp, fun _ => m2, fun e => (l1 e).elim, fun _ => l2, fun e => (h1 e).elim, fun _ => h2⟩
                simp [Instr.sliceBounds, a3, h3, l3]
        · cases e
      · cases e
  · cases e
end
end AM
end Go.Proofs.YtccnkkffeokgcaaGreatDoor
