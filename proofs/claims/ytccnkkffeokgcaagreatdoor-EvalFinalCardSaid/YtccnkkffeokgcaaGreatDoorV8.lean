/-
  The abstract machine's operations, fifth part: slices are cut; values are held against each other; numbers. No condition.
-/
import Derived.Test.YtccnkkffeokgcaaGreatDoorV7
import Derived.Laws.StructEq
namespace Go.Proofs.YtccnkkffeokgcaaGreatDoor
namespace AM
open Go.RowKit

section
variable {P : Program} {E : Env} {μ : Mp} {H : AH} {w0 : Base} {w : World}
def aslice (E : Env) (t : Nat) (x : Value) (lo hi mx : Option Value) : Option Value := match x, E.und t with
  | .slice a n c, some (.slice el) => match E.info el with
    | some i => match a with
      | none => match abounds n c lo hi mx with
        | some (l, h, m) => some (.slice none (h - l) (m - l))
        | none => none
      | some ⟨k, o, none⟩ =>
        bif Nat.blt c big then (match abounds n c lo hi mx with
          | some (l, h, m) => some (.slice (some ⟨k, (bif Nat.beq m l then o else o + l * i.size), none⟩) (h - l) (m - l))
          | none => none)
        else (match abounds n (c % big) lo hi mx with
          | some (l, h, m) => match mx with
            | some _ => some (.slice (some ⟨k, (bif Nat.beq m l then o else o + l * i.size), none⟩) (h - l) (m - l))
            | none => bif Nat.beq (c / big) i.size && Nat.blt l (c % big) && Nat.ble h (c % big) then some (.slice (some ⟨k, o + l * i.size, none⟩) (h - l) (i.size * big + (c % big - l))) else none
          | none => none)
      | some ⟨_, _, some _⟩ => none
    | none => none
  | .pointer (some ⟨k, o, none⟩), some (.array n el) => match E.info el with
    | some i => match abounds n n lo hi mx with
      | some (l, h, m) => bif Nat.blt n big then some (.slice (some ⟨k, (bif Nat.beq m l then o else o + l * i.size), none⟩) (h - l) (m - l)) else none
      | none => none
    | none => none
  | _, _ => none
theorem slice_addr (g o l m z : Nat) : (if m = l then (⟨g, o, none⟩ : Addr) else (⟨g, o, none⟩ : Addr).add (l * z)) = ⟨g, (bif Nat.beq m l then o else o + l * z), none⟩ := by
  by_cases e : m = l
  · subst e; simp
  · rw [if_neg e, beq_ne e, addr_add]; rfl
theorem run_slice_some (hE : E.Ok P) {t : Nat} {el : TypeId} {i : TypeInfo} (hu : E.und t = some (.slice el)) (hi : E.info el = some i) {a : Option Addr} {n c l h m : Nat} {lo hi' mx : Option Value} (hb : (Instr.sliceBounds true n c lo hi' mx).run P w = .ok (l, h, m) w) :
    (Instr.sliceAt t (.slice a n c) lo hi' mx).run P w = .ok (.slice (if m = l then a else a.map (·.add (l * i.size))) (h - l) (m - l)) w := by
  simp only [Instr.sliceAt, Instr.slice, Sem.run_bind, run_und hE hu, Result.andThen_ok, hb, run_size hE hi, Sem.run_pure]
theorem div_big {e c : Nat} (h : c < big) : (e * big + c) / big = e ∧ (e * big + c) % big = c := by
  have : 0 < big := by decide
  constructor
  · rw [Nat.mul_comm, Nat.mul_add_div this, Nat.div_eq_of_lt h]; rfl
  · rw [Nat.mul_comm, Nat.mul_add_mod, Nat.mod_eq_of_lt h]
theorem aslice_ok (hE : E.Ok P) (h : Rel μ H w0 w) {t : Nat} {x x' v : Value} {lo lo' hi hi' mx mx' : Option Value} (hx : VR μ x x') (hlo : OR μ lo lo') (hhi : OR μ hi hi') (hmx : OR μ mx mx') (e : aslice E t x lo hi mx = some v) :
    GotV P (Instr.sliceAt t x' lo' hi' mx') μ w0 w v H := by
  unfold aslice at e
  split at e
  · rename_i a n c el hu
    split at e
    · rename_i i hi0
      split at e
      · split at e
        · rename_i l h0 m hb
          cases e
          cases hx
          obtain ⟨r, r1, r2, _⟩ := abounds_ok (P := P) (w := w) (sl := true) hlo hhi hmx (Nat.le_refl _) hb
          refine .pure h (run_slice_some hE hu hi0 r) ?_
          cases hm : mx with
          | none =>
            have := r1 hm
            simp only [Option.isSome_none, Bool.false_eq_true, if_false, Option.map_none, ite_self, this]
            exact .snil _ _
          | some y =>
            simp only [Option.isSome_some, if_true, Option.map_none, ite_self]
            exact .snil _ _
        · cases e
      · rename_i k o
        cases hc : Nat.blt c big with
        | true =>
          rw [hc, cond_true] at e
          split at e
          · rename_i l h0 m hb
            cases e
            have hcb : c < big := Nat.le_of_ble_eq_true hc
            cases hx with
            | @sl k g s o n c hm hlt =>
              obtain ⟨r, r1, r2, _⟩ := abounds_ok (P := P) (w := w) (sl := true) hlo hhi hmx (Nat.le_refl _) hb
              have hmm : (if mx.isSome = true then m else c) = m ∧ m ≤ c := by
                cases hm : mx with
                | none => have := r1 hm; simp [this]
                | some y => have := r2 (by simp [hm]); simp [this]
              rw [hmm.1] at r
              refine .pure h (run_slice_some hE hu hi0 r) ?_
              have e2 : (if m = l then some (⟨g, o, none⟩ : Addr) else (some (⟨g, o, none⟩ : Addr)).map (·.add (l * i.size))) = some ⟨g, (bif Nat.beq m l then o else o + l * i.size), none⟩ := by
                rw [← slice_addr]; split <;> rfl
              rw [e2]
              exact .sl _ _ _ hm (by omega)
            | slx o n c c' ez hm h1 h2 h3 h4 h5 =>
              have : big ≤ ez * big := Nat.le_mul_of_pos_left _ h2
              omega
          · cases e
        | false =>
          rw [hc, cond_false] at e
          have hcb : ¬ c < big := by
            intro hlt
            have : Nat.blt c big = true := Nat.ble_eq_true_of_le hlt
            rw [this] at hc; cases hc
          cases hx with
          | sl o n c hm hlt => exact (hcb hlt).elim
          | @slx k g s o n c c' ez hm h1 h2 h3 h4 h5 =>
            rw [(div_big h5).1, (div_big h5).2] at e
            split at e
            · rename_i l h0 m hb
              obtain ⟨r, r1, r2, r3, r4, r5, r6⟩ := abounds_ok (P := P) (w := w) (sl := true) hlo hhi hmx h4 hb
              split at e
              · rename_i y
                cases e
                simp only [Option.isSome_some, if_true] at r
                refine .pure h (run_slice_some hE hu hi0 r) ?_
                have e2 : (if m = l then some (⟨g, o, none⟩ : Addr) else (some (⟨g, o, none⟩ : Addr)).map (·.add (l * i.size))) = some ⟨g, (bif Nat.beq m l then o else o + l * i.size), none⟩ := by
                  rw [← slice_addr]; split <;> rfl
                rw [e2]
                have := r2 (by simp)
                exact .sl _ _ _ hm (by omega)
              · cases hcond : (Nat.beq ez i.size && Nat.blt l c && Nat.ble h0 c) with
                | false => rw [hcond] at e; cases e
                | true =>
                  rw [hcond, cond_true] at e
                  cases e
                  simp only [Bool.and_eq_true] at hcond
                  obtain ⟨⟨q1, q2⟩, q3⟩ := hcond
                  have q1 := Nat.eq_of_beq_eq_true q1
                  have q2 : l < c := Nat.le_of_ble_eq_true q2
                  have q3 := Nat.le_of_ble_eq_true q3
                  subst q1
                  simp only [Option.isSome_none, Bool.false_eq_true, if_false] at r
                  refine .pure h (run_slice_some hE hu hi0 r) ?_
                  rw [if_neg (by omega)]
                  simp only [Option.map_some, addr_add]
                  have hll : l ≤ h0 ∨ lo = none := by
                    by_cases hl : lo = none
                    · exact .inr hl
                    · exact .inl (r4 hl)
                  refine .slx _ _ (c - l) (c' - l) i.size hm ?_ h2 (by omega) (by omega) (by omega)
                  have : (c' - l) * i.size + l * i.size = c' * i.size := by rw [← Nat.add_mul]; congr 1; omega
                  omega
            · cases e
      · cases e
    · cases e
  · rename_i k o n el hu
    split at e
    · rename_i i hi0
      split at e
      · rename_i l h0 m hb
        cases hn : Nat.blt n big with
        | false => rw [hn] at e; cases e
        | true =>
          rw [hn, cond_true] at e
          cases e
          have hnb : n < big := Nat.le_of_ble_eq_true hn
          cases hx with
          | @ptr k g s o hm =>
            obtain ⟨r, r1, r2, _⟩ := abounds_ok (P := P) (w := w) (sl := false) hlo hhi hmx (Nat.le_refl _) hb
            have hmm : (if mx.isSome = true then m else n) = m ∧ m ≤ n := by
              cases hm : mx with
              | none => have := r1 hm; simp [this]
              | some y => have := r2 (by simp [hm]); simp [this]
            rw [hmm.1] at r
            refine .pure h (v' := .slice (some (if m = l then (⟨g, o, none⟩ : Addr) else (⟨g, o, none⟩ : Addr).add (l * i.size))) (h0 - l) (m - l)) ?_ ?_
            · simp only [Instr.sliceAt, Sem.run_bind, run_und hE hu, Result.andThen_ok, Instr.sureAddr, Sem.run_pure, r, run_size hE hi0]
            · rw [slice_addr]
              exact .sl _ _ _ hm (by omega)
      · cases e
    · cases e
  · cases e
end
end AM
end Go.Proofs.YtccnkkffeokgcaaGreatDoor
