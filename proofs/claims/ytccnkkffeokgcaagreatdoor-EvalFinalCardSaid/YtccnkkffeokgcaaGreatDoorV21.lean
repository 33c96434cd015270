/-
  The abstract machine: the operations of a statement whose order is drawn: what is computed. No condition.
-/
import Derived.Test.YtccnkkffeokgcaaGreatDoorV20
namespace Go.Proofs.YtccnkkffeokgcaaGreatDoor
namespace AM
open Go.RowKit

section
variable {P : Program} {E : Env} {Q : Eqs} {call : ACall} {round : ARound} {n : Nat}
/-- Those that ask nothing of memory. -/
def isPure : Op → Bool
  | .move _ | .assign _ | .pick .. | .build .. | .nilCheck _ | .binOp .. | .unOp .. | .makeInterface .. | .makeFunc .. | .slice .. | .fieldAddr .. | .field .. | .indexAddr .. | .index .. | .extract .. | .typeAssert .. => true
  | _ => false
/-- Those that only read. -/
def isReader (E : Env) : Op → Bool
  | .load .. | .lookup .. => true
  | .convert _ d _ => match E.und d with
    | some (.slice _) => false
    | some _ => true
    | none => false
  | .call c => match c.callee with
    | .builtin .len | .builtin .max | .builtin .min => true
    | _ => false
  | _ => false
theorem aoper_pure {T : Nat → Option Value} {H K H' : AH} {o : Oper} {v : Value} (hp : isPure o.op = true) (e : aoper1 P E Q call round T H o = some (v, H')) : aoper1 P E Q call round T K o = some (v, K) := by
  unfold aoper1 aoper at e ⊢
  have pk : ∀ {r : Option Value}, pairH H r = some (v, H') → pairH K r = some (v, K) := fun {r} h => by
    obtain ⟨h1, _⟩ := pairH_some h
    rw [h1]; rfl
  cases ho : o.op <;> rw [ho] at e hp <;> first | cases hp | skip
  all_goals simp only [single_one] at e ⊢
  all_goals simp only [aop] at e ⊢
  case makeInterface =>
    split at e
    · split at e
      · cases e
      · cases e; simp only [*]
    · cases e
  case makeFunc f xs ys =>
    cases f <;> simp only at e ⊢ <;> first | (cases e; done) | skip
    split at e
    · cases e
      simp only [*]
    · cases e
  all_goals first
    | exact pk e
    | (split at e <;> first | (cases e; done) | (have e2 := pk e; clear e pk; first | exact e2 | simp only [*]))
theorem aconv_same {H H' : AH} {s d : Nat} {v r : Value} {ds : TypeDesc} (hd : E.und d = some ds) (hn : ∀ el, ds ≠ .slice el) (e : aconv P E H s d v = some (r, H')) : H' = H := by
  unfold aconv at e
  rw [hd] at e
  simp only [Bool.cond_eq_ite] at e
  repeat' split at e
  all_goals first
    | (cases e; done)
    | (cases e; rfl)
    | (rename_i h2; cases h2; exact absurd rfl (hn _))
    | (exfalso; simp_all; done)
theorem aconvP_same {H H' : AH} {s d : Nat} {v r : Value} {ds : TypeDesc} (hd : E.und d = some ds) (hn : ∀ el, ds ≠ .slice el) (e : aconvP P E H s d v = some (r, H')) : H' = H := by
  unfold aconvP at e
  simp only [Bool.cond_eq_ite] at e
  split at e
  · repeat' split at e
    all_goals first
      | (cases e; done)
      | (cases e; rfl)
  · repeat' split at e
    all_goals first
      | (cases e; done)
      | (cases e; rfl)
  · exact aconv_same hd hn e
theorem aoper_same {T : Nat → Option Value} {H H' : AH} {o : Oper} {v : Value} (hp : isReader E o.op = true) (e : aoper1 P E Q call round T H o = some (v, H')) : H' = H := by
  unfold aoper1 aoper at e
  cases ho : o.op <;> rw [ho] at e hp <;> first | (cases hp; done) | skip
  all_goals (try simp only [single_one] at e)
  all_goals (try simp only [aop] at e)
  case load t x =>
    split at e
    · exact (pairH_some e).2
    · cases e
  case lookup t x i ok =>
    split at e
    · exact (pairH_some e).2
    · cases e
  case convert s d x =>
    simp only [isReader] at hp
    split at e
    · split at hp
      · cases hp
      · rename_i ds hn hd
        exact aconvP_same hd hn e
      · cases hp
    · cases e
  case call c =>
    simp only [isReader] at hp
    split at hp
    all_goals first
      | (cases hp; done)
      | (rename_i hc
         rw [hc] at e
         simp only at e
         split at e
         · rw [single_one] at e
           simp only [abuiltin] at e
           repeat' split at e
           all_goals first | (cases e; done) | exact (pairH_some e).2 | contradiction
         · cases e)
/-- Slots that may be looked at: those that the statement does not write, those of operations that come ahead for sure, and those of operations that come later for sure, as they were. -/
def sl (dx : Tri Nat) (Al : List Nat) (i anc : Nat) (T : Nat → Option Value) (t : Nat) : Option Value := match dx.get t with
  | some k => bif anc.testBit k || (Nat.blt i k && (Al.getD k 0).testBit i) then T t else none
  | none => T t
def sf (dx : Tri Nat) (A : Nat → Nat) (i : Nat) (T0 Tf : Nat → Option Value) (t : Nat) : Option Value := match dx.get t with
  | some k => bif (A i).testBit k then Tf t else bif Nat.blt i k && (A k).testBit i then T0 t else none
  | none => Tf t
def dxOf : List Oper → Nat → Tri Nat → Tri Nat
  | [], _, D => D
  | o :: os, i, D => match o.dst with
    | some d => dxOf os (i + 1) (D.set 20 d i)
    | none => dxOf os (i + 1) D
def dxOk (dx : Tri Nat) (n : Nat) : List Oper → Nat → Bool
  | [], _ => true
  | o :: os, i => (match o.dst with
    | some d => Nat.blt d n && (match dx.get d with | some k => Nat.beq k i | none => false)
    | none => true) && dxOk dx n os (i + 1)
def ancOf (ancs : List Nat) (o : Oper) : Nat := o.after.toList.foldl (fun s e => bif Region.binds .any e then s ||| 2 ^ e.on ||| ancs.getD e.on 0 else s) 0
theorem ancOf_bit {ancs : List Nat} {o : Oper} {j : Nat} (h : (ancOf ancs o).testBit j = true) : ∃ e ∈ o.after, Region.binds .any e = true ∧ (j = e.on ∨ (ancs.getD e.on 0).testBit j = true) := by
  have key : ∀ (l : List Edge) (s : Nat), (l.foldl (fun s e => bif Region.binds .any e then s ||| 2 ^ e.on ||| ancs.getD e.on 0 else s) s).testBit j = true → s.testBit j = true ∨ ∃ e ∈ l, Region.binds .any e = true ∧ (j = e.on ∨ (ancs.getD e.on 0).testBit j = true) := by
    intro l
    induction l with
    | nil => intro s h; exact .inl h
    | cons e l ih =>
      intro s h
      rcases ih _ h with h1 | ⟨e', h1, h2⟩
      · cases hb : Region.binds .any e with
        | false => dsimp only at h1; rw [hb] at h1; exact .inl h1
        | true =>
          dsimp only at h1
          rw [hb, cond_true, Nat.testBit_or, Nat.testBit_or, Nat.testBit_two_pow] at h1
          rcases Bool.or_eq_true _ _ ▸ h1 with h1 | h1
          · rcases Bool.or_eq_true _ _ ▸ h1 with h1 | h1
            · exact .inl h1
            · exact .inr ⟨e, by simp, hb, .inl (by simpa using (of_decide_eq_true h1).symm)⟩
          · exact .inr ⟨e, by simp, hb, .inr h1⟩
      · exact .inr ⟨e', by simp [h1], h2⟩
  rcases key _ _ h with h1 | ⟨e, h1, h2⟩
  · simp at h1
  · exact ⟨e, by simpa using h1, h2⟩
def ancsOf : List Oper → List Nat → List Nat
  | [], l => l
  | o :: os, l => ancsOf os (l ++ [ancOf l o])
def eqNats : List Nat → List Nat → Bool
  | [], [] => true
  | a :: l, b :: m => Nat.beq a b && eqNats l m
  | _, _ => false
theorem eqNats_ok : ∀ l m, eqNats l m = true → l = m
  | [], [], _ => rfl
  | a :: l, b :: m, h => by
    simp only [eqNats, Bool.and_eq_true] at h
    rw [Nat.eq_of_beq_eq_true h.1, eqNats_ok l m h.2]
  | [], _ :: _, h => by cases h
  | _ :: _, [], h => by cases h
structure DEff where
  i : Nat
  before : Nat
  ups : Nat
  H : AH
  ad : List (Nat × Blk)
  H' : AH
structure DOut where
  effs : List DEff
  pend : List (Nat × Blk)
  before : Nat
  ups : Nat
  ancs : List Nat
  T : Tri Value
  H : AH
def adopt (N0 : Nat) (H : AH) (l : List (Nat × Blk)) : AH := l.foldl (fun H x => H.put (N0 + x.1) x.2) H
def passA (P : Program) (E : Env) (Q : Eqs) (call : ACall) (round : ARound) (n : Nat) (all : List Oper) (dx : Tri Nat) (Al : List Nat) (N0 : Nat) : List Oper → Nat → List Nat → Nat → Nat → List (Nat × Blk) → Tri Value → AH → Option DOut
  | [], _, ancs, m, u, pend, T, H => some ⟨[], pend, m, u, ancs, T, H⟩
  | o :: os, i, ancs, m, u, pend, T, H =>
    bif o.after.toList.all (fun e => !Region.binds .any e || Nat.blt e.on i) then (match awant all (sl dx Al i (ancOf ancs o) T.get) o with
    | some false => match aput T n o.dst undef with
      | some T' => passA P E Q call round n all dx Al N0 os (i + 1) (ancs ++ [ancOf ancs o]) m u pend T' H
      | none => none
    | some true =>
      bif isAlloc o.op then (match aallocB E (sl dx Al i (ancOf ancs o) T.get) (N0 + i) o.op with
        | some (v, b) => match aput T n o.dst v with
          | some T' => passA P E Q call round n all dx Al N0 os (i + 1) (ancs ++ [ancOf ancs o]) m u ((i, b) :: pend) T' H
          | none => none
        | none => none)
      else bif isPure o.op || isReader E o.op then (match aoper1 P E Q call round (sl dx Al i (ancOf ancs o) T.get) H o with
        | some (v, _) => match aput T n o.dst v with
          | some T' => passA P E Q call round n all dx Al N0 os (i + 1) (ancs ++ [ancOf ancs o]) m u pend T' H
          | none => none
        | none => none)
      else bif Nat.beq (ancOf ancs o &&& m) m then (match aoper1 P E Q call round (sl dx Al i (ancOf ancs o) T.get) (adopt N0 H (pend.filter fun x => (ancOf ancs o).testBit x.1)) o with
        | some (v, H') => match aput T n o.dst v with
          | some T' => match passA P E Q call round n all dx Al N0 os (i + 1) (ancs ++ [ancOf ancs o]) (m ||| 2 ^ i) (u ||| ancOf ancs o) (pend.filter fun x => !(ancOf ancs o).testBit x.1) T' H' with
            | some out => some ⟨⟨i, m, u, H, pend.filter fun x => (ancOf ancs o).testBit x.1, H'⟩ :: out.effs, out.pend, out.before, out.ups, out.ancs, out.T, out.H⟩
            | none => none
          | none => none
        | none => none)
      else none
    | none => none) else none
def veq : Nat → Value → Value → Bool
  | 0, _, _ => false
  | n + 1, u, v => match u, v with
    | .bool a, .bool b => a == b
    | .int k a, .int l b => decide (k = l) && decide (a = b)
    | .string a, .string b => beqBytes a b
    | .pointer none, .pointer none => true
    | .pointer (some ⟨k, o, none⟩), .pointer (some ⟨l, p, none⟩) => Nat.beq k l && Nat.beq o p
    | .slice none a b, .slice none c d => Nat.beq a c && Nat.beq b d
    | .slice (some ⟨k, o, none⟩) a b, .slice (some ⟨l, p, none⟩) c d => Nat.beq k l && Nat.beq o p && Nat.beq a c && Nat.beq b d
    | .map none, .map none => true
    | .map (some k), .map (some l) => Nat.beq k l
    | .nilFunc, .nilFunc => true
    | .nilIface, .nilIface => true
    | .iface t x, .iface s y => Nat.beq t s && veq n x y
    | .func (.func f) a c, .func (.func g) b d => Nat.beq f g && veqs (veq n) a.toList b.toList && veqs (veq n) c.toList d.toList
    | .func (.yield f) a c, .func (.yield g) b d => Nat.beq f g && veqs (veq n) a.toList b.toList && veqs (veq n) c.toList d.toList
    | .agg a, .agg b => veqs (veq n) a.toList b.toList
    | .tuple a, .tuple b => veqs (veq n) a.toList b.toList
    | _, _ => false
where veqs (f : Value → Value → Bool) : List Value → List Value → Bool
  | [], [] => true
  | x :: xs, y :: ys => f x y && veqs f xs ys
  | _, _ => false
theorem veqs_ok {f : Value → Value → Bool} (hf : ∀ u v, f u v = true → u = v) : ∀ l m, veq.veqs f l m = true → l = m
  | [], [], _ => rfl
  | x :: xs, y :: ys, h => by
    simp only [veq.veqs, Bool.and_eq_true] at h
    rw [hf _ _ h.1, veqs_ok hf xs ys h.2]
  | [], _ :: _, h => by cases h
  | _ :: _, [], h => by cases h
theorem veq_ok : ∀ (k : Nat) (u v : Value), veq k u v = true → u = v
  | 0, _, _, h => by cases h
  | k + 1, u, v, h => by
    have hs := veqs_ok (veq_ok k)
    unfold veq at h
    split at h
    all_goals first
      | rfl
      | (cases h; done)
      | skip
    all_goals try simp only [Bool.and_eq_true, decide_eq_true_eq, beq_iff_eq] at h
    · rw [h]
    · rw [h.1, h.2]
    · rename_i a b
      have h2 : a.data.toList = b.data.toList := eq_of_beq h
      rw [ByteArray.ext (Array.ext' h2)]
    · rw [Nat.eq_of_beq_eq_true h.1, Nat.eq_of_beq_eq_true h.2]
    · rw [Nat.eq_of_beq_eq_true h.1, Nat.eq_of_beq_eq_true h.2]
    · rw [Nat.eq_of_beq_eq_true h.1.1.1, Nat.eq_of_beq_eq_true h.1.1.2, Nat.eq_of_beq_eq_true h.1.2, Nat.eq_of_beq_eq_true h.2]
    · rw [Nat.eq_of_beq_eq_true h]
    · rw [Nat.eq_of_beq_eq_true h.1, veq_ok k _ _ h.2]
    · rw [Nat.eq_of_beq_eq_true h.1.1, Array.ext' (hs _ _ h.1.2), Array.ext' (hs _ _ h.2)]
    · rw [Nat.eq_of_beq_eq_true h.1.1, Array.ext' (hs _ _ h.1.2), Array.ext' (hs _ _ h.2)]
    · rw [Array.ext' (hs _ _ h)]
    · rw [Array.ext' (hs _ _ h)]
def passB (P : Program) (E : Env) (Q : Eqs) (call : ACall) (round : ARound) (all : List Oper) (dx : Tri Nat) (hs : List (Nat × Nat × AH)) (effall : Nat) (ancs : List Nat) (T0 T : Tri Value) : List Oper → Nat → Bool
  | [], _ => true
  | o :: os, i => (bif isReader E o.op then (match awant all (sf dx (fun j => ancs.getD j 0) i T0.get T.get) o with
      | some true => hs.all fun (m, u, H) => bif Nat.beq ((ancs.getD i 0 &&& effall) ||| m) m && !u.testBit i then (match aoper1 P E Q call round (sf dx (fun j => ancs.getD j 0) i T0.get T.get) H o with
          | some (v, _) => match o.dst with
            | none => true
            | some d => match T.get d with
              | some v' => veq 12 v v'
              | none => false
          | none => false) else true
      | some false => true
      | none => false) else true) && passB P E Q call round all dx hs effall ancs T0 T os (i + 1)
def distinctB : List (Nat × Blk) → Bool
  | [] => true
  | x :: l => l.all (fun y => !Nat.beq x.1 y.1) && distinctB l
def adraw (P : Program) (E : Env) (Q : Eqs) (call : ACall) (round : ARound) (n : Nat) (all : List Oper) (T : Tri Value) (H : AH) : Option (Tri Value × AH) :=
  bif dxOk (dxOf all 0 .nil) n all 0 && Nat.blt (H.next + all.length) 1099511627776 && Nat.blt n 1048575 then
    (match passA P E Q call round n all (dxOf all 0 .nil) (ancsOf all []) H.next all 0 [] 0 0 [] T ⟨H.t, H.next + all.length⟩ with
    | some out => bif eqNats out.ancs (ancsOf all []) && passB P E Q call round all (dxOf all 0 .nil) (out.effs.map (fun e => (e.before, e.ups, e.H)) ++ [(out.before, out.ups, out.H)]) out.before out.ancs T out.T all 0 && distinctB (out.effs.flatMap (·.ad) ++ out.pend)
        then some (out.T, adopt H.next out.H out.pend) else none
    | none => none) else none
end
end AM
end Go.Proofs.YtccnkkffeokgcaaGreatDoor
