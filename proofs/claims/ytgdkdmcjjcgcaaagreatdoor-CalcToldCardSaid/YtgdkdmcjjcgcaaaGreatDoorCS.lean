/-
  Calls that hand back nothing, and end in a state that is written down; five cells in an order. No condition.
-/
import Derived.Test.YtgdkdmcjjcgcaaaGreatDoorCC
set_option linter.unusedSectionVars false
namespace Go.Proofs.YtgdkdmcjjcgcaaaGreatDoor
namespace AM
open Go.RowKit
variable [Toks]
section
variable {P : Program}
def givesV (r : Option Outs) (S1 : Cut) : Bool := match r with
  | some outs => outs.all fun p => veq 3 p.1 (.tuple #[]) && S1.fits .nil p.2
  | none => false
def acallV (f0 : Nat) (vl : List Value) (S0 S1 : Cut) (call : ACall) : ACall := fun f l H => bif Nat.beq f f0 && leqB (veqB 40) l vl && S0.fits .nil H then some [(.tuple #[], S1.H)] else call f l H
theorem acallV_ok {call0 : ACall} (hC0 : CallOk P call0) {f0 : Nat} {vl : List Value} {S0 S1 : Cut} (hg : givesV (call0 f0 vl S0.H) S1 = true) (call : ACall) (hC : CallOk P call) : CallOk P (acallV f0 vl S0 S1 call) := by
  intro w0 f l H outs μ args w e hr hl
  unfold acallV at e
  cases hb : (Nat.beq f f0 && leqB (veqB 40) l vl && S0.fits .nil H) with
  | false => rw [hb, cond_false] at e; exact hC w0 f l H outs μ args w e hr hl
  | true =>
    rw [hb, cond_true] at e
    cases e
    simp only [Bool.and_eq_true] at hb
    obtain rfl := Nat.eq_of_beq_eq_true hb.1.1
    obtain rfl := leqB_eq (veqB_eq 40) _ _ hb.1.2
    unfold givesV at hg
    split at hg
    · rename_i outs0 h0
      refine CallsIn.mono (hC0 w0 f l S0.H outs0 μ args w h0 (Cut.part hb.2 hr) hl) ?_
      rintro e w' ⟨p, hp, ν, v', he, k1, k2, k3⟩
      have hp2 := List.all_eq_true.1 hg p hp
      rw [Bool.and_eq_true] at hp2
      exact ⟨(.tuple #[], S1.H), by simp, ν, v', he, k1, Cut.part hp2.2 k2, by rw [← veq_ok _ _ _ hp2.1]; exact k3⟩
    · cases hg
def acallVs (f0 : Nat) (vl : List Value) : List (Cut × Cut) → ACall → ACall
  | [], call => call
  | x :: l, call => acallV f0 vl x.1 x.2 (acallVs f0 vl l call)
theorem acallVs_ok {call0 : ACall} (hC0 : CallOk P call0) {f0 : Nat} {vl : List Value} : ∀ (l : List (Cut × Cut)), (l.all fun x => givesV (call0 f0 vl x.1.H) x.2) = true → ∀ (call : ACall), CallOk P call → CallOk P (acallVs f0 vl l call)
  | [], _, call, hC => hC
  | x :: l, h, call, hC => by
    rw [List.all_cons, Bool.and_eq_true] at h
    exact acallV_ok hC0 h.1 _ (acallVs_ok hC0 l h.2 call hC)
end
def asS : List Value := [.slice (some ⟨1106, 0, none⟩) 5 73786976294838206469, .func (.func 252) #[] #[]]
def cellC (i : Int) : List Value := [.int .i64 0, .int .i64 1, .int .i64 0, .int .i64 i]
def inOrder (a b c d e : Int) (n : Nat) : Cut := ⟨[], [(1106, .cells (cellC a ++ (cellC b ++ (cellC c ++ (cellC d ++ cellC e)))) 49 false true)], n⟩
def srt (a b c d e : Int) (n : Nat) : Cut × Cut := (inOrder a b c d e 1107, inOrder 1 2 3 4 5 n)
def srt0 : List (Cut × Cut) := [srt 1 2 3 4 5 1175, srt 1 2 3 5 4 1210, srt 1 2 4 3 5 1210, srt 1 2 4 5 3 1245, srt 1 2 5 3 4 1245, srt 1 2 5 4 3 1280, srt 1 3 2 4 5 1210, srt 1 3 2 5 4 1245, srt 1 3 4 2 5 1245, srt 1 3 4 5 2 1280]
def srt1 : List (Cut × Cut) := [srt 1 3 5 2 4 1280, srt 1 3 5 4 2 1315, srt 1 4 2 3 5 1245, srt 1 4 2 5 3 1280, srt 1 4 3 2 5 1280, srt 1 4 3 5 2 1315, srt 1 4 5 2 3 1315, srt 1 4 5 3 2 1350, srt 1 5 2 3 4 1280, srt 1 5 2 4 3 1315]
def srt2 : List (Cut × Cut) := [srt 1 5 3 2 4 1315, srt 1 5 3 4 2 1350, srt 1 5 4 2 3 1350, srt 1 5 4 3 2 1385, srt 2 1 3 4 5 1210, srt 2 1 3 5 4 1245, srt 2 1 4 3 5 1245, srt 2 1 4 5 3 1280, srt 2 1 5 3 4 1280, srt 2 1 5 4 3 1315]
def srt3 : List (Cut × Cut) := [srt 2 3 1 4 5 1245, srt 2 3 1 5 4 1280, srt 2 3 4 1 5 1280, srt 2 3 4 5 1 1315, srt 2 3 5 1 4 1315, srt 2 3 5 4 1 1350, srt 2 4 1 3 5 1280, srt 2 4 1 5 3 1315, srt 2 4 3 1 5 1315, srt 2 4 3 5 1 1350]
def srt4 : List (Cut × Cut) := [srt 2 4 5 1 3 1350, srt 2 4 5 3 1 1385, srt 2 5 1 3 4 1315, srt 2 5 1 4 3 1350, srt 2 5 3 1 4 1350, srt 2 5 3 4 1 1385, srt 2 5 4 1 3 1385, srt 2 5 4 3 1 1420, srt 3 1 2 4 5 1245, srt 3 1 2 5 4 1280]
def srt5 : List (Cut × Cut) := [srt 3 1 4 2 5 1280, srt 3 1 4 5 2 1315, srt 3 1 5 2 4 1315, srt 3 1 5 4 2 1350, srt 3 2 1 4 5 1280, srt 3 2 1 5 4 1315, srt 3 2 4 1 5 1315, srt 3 2 4 5 1 1350, srt 3 2 5 1 4 1350, srt 3 2 5 4 1 1385]
def srt6 : List (Cut × Cut) := [srt 3 4 1 2 5 1315, srt 3 4 1 5 2 1350, srt 3 4 2 1 5 1350, srt 3 4 2 5 1 1385, srt 3 4 5 1 2 1385, srt 3 4 5 2 1 1420, srt 3 5 1 2 4 1350, srt 3 5 1 4 2 1385, srt 3 5 2 1 4 1385, srt 3 5 2 4 1 1420]
def srt7 : List (Cut × Cut) := [srt 3 5 4 1 2 1420, srt 3 5 4 2 1 1455, srt 4 1 2 3 5 1280, srt 4 1 2 5 3 1315, srt 4 1 3 2 5 1315, srt 4 1 3 5 2 1350, srt 4 1 5 2 3 1350, srt 4 1 5 3 2 1385, srt 4 2 1 3 5 1315, srt 4 2 1 5 3 1350]
def srt8 : List (Cut × Cut) := [srt 4 2 3 1 5 1350, srt 4 2 3 5 1 1385, srt 4 2 5 1 3 1385, srt 4 2 5 3 1 1420, srt 4 3 1 2 5 1350, srt 4 3 1 5 2 1385, srt 4 3 2 1 5 1385, srt 4 3 2 5 1 1420, srt 4 3 5 1 2 1420, srt 4 3 5 2 1 1455]
def srt9 : List (Cut × Cut) := [srt 4 5 1 2 3 1385, srt 4 5 1 3 2 1420, srt 4 5 2 1 3 1420, srt 4 5 2 3 1 1455, srt 4 5 3 1 2 1455, srt 4 5 3 2 1 1490, srt 5 1 2 3 4 1315, srt 5 1 2 4 3 1350, srt 5 1 3 2 4 1350, srt 5 1 3 4 2 1385]
def srt10 : List (Cut × Cut) := [srt 5 1 4 2 3 1385, srt 5 1 4 3 2 1420, srt 5 2 1 3 4 1350, srt 5 2 1 4 3 1385, srt 5 2 3 1 4 1385, srt 5 2 3 4 1 1420, srt 5 2 4 1 3 1420, srt 5 2 4 3 1 1455, srt 5 3 1 2 4 1385, srt 5 3 1 4 2 1420]
def srt11 : List (Cut × Cut) := [srt 5 3 2 1 4 1420, srt 5 3 2 4 1 1455, srt 5 3 4 1 2 1455, srt 5 3 4 2 1 1490, srt 5 4 1 2 3 1420, srt 5 4 1 3 2 1455, srt 5 4 2 1 3 1455, srt 5 4 2 3 1 1490, srt 5 4 3 1 2 1490, srt 5 4 3 2 1 1525]
end AM
end Go.Proofs.YtgdkdmcjjcgcaaaGreatDoor
