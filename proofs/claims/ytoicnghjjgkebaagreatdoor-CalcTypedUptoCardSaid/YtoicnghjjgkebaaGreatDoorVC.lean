/-
  The abstract machine: a long piece of code is reckoned in parts; between two parts no more is kept than what is written down. No condition.
-/
import Derived.Test.YtoicnghjjgkebaaGreatDoorV28
import Derived.MapKept
set_option linter.unusedSectionVars false
set_option linter.unusedSimpArgs false
set_option linter.unusedVariables false
set_option linter.unnecessarySimpa false
namespace Go.Proofs.YtoicnghjjgkebaaGreatDoor
namespace AM
open Go.RowKit
variable [Toks]

def leqB (f : Value → Value → Bool) : List Value → List Value → Bool
  | [], [] => true
  | a :: l, b :: m => f a b && leqB f l m
  | _, _ => false
theorem leqB_eq {f : Value → Value → Bool} (hf : ∀ a b, f a b = true → a = b) : ∀ l m, leqB f l m = true → l = m
  | [], [], _ => rfl
  | a :: l, b :: m, h => by
    simp only [leqB, Bool.and_eq_true] at h
    rw [hf a b h.1, leqB_eq hf l m h.2]
  | [], _ :: _, h => by cases h
  | _ :: _, [], h => by cases h
def veqB : Nat → Value → Value → Bool
  | 0, _, _ => false
  | n + 1, a, b => match a, b with
    | .bool x, .bool y => x == y
    | .int k x, .int k' y => decide (k = k') && decide (x = y)
    | .string s, .string t => beqBytes s t
    | .pointer none, .pointer none => true
    | .pointer (some ⟨k, o, none⟩), .pointer (some ⟨j, p, none⟩) => Nat.beq k j && Nat.beq o p
    | .slice none x y, .slice none u v => Nat.beq x u && Nat.beq y v
    | .slice (some ⟨k, o, none⟩) x y, .slice (some ⟨j, p, none⟩) u v => Nat.beq k j && Nat.beq o p && Nat.beq x u && Nat.beq y v
    | .map none, .map none => true
    | .map (some k), .map (some j) => Nat.beq k j
    | .nilFunc, .nilFunc => true
    | .nilIface, .nilIface => true
    | .iface t x, .iface u y => Nat.beq t u && veqB n x y
    | .func (.func f) x y, .func (.func g) u v => Nat.beq f g && leqB (veqB n) x.toList u.toList && leqB (veqB n) y.toList v.toList
    | .agg x, .agg y => leqB (veqB n) x.toList y.toList
    | .chan none, .chan none => true
    | .chan (some k), .chan (some j) => Nat.beq k j
    | .complex .f64 c k, .complex .f64 d j => Nat.beq c d && Nat.beq k j
    | _, _ => false
theorem veqB_eq : ∀ (n : Nat) (a b : Value), veqB n a b = true → a = b
  | 0, _, _, h => by cases h
  | n + 1, a, b, h => by
    have ih := veqB_eq n
    have rows : ∀ {x y : Array Value}, leqB (veqB n) x.toList y.toList = true → x = y := fun h => Array.ext' (leqB_eq ih _ _ h)
    have nat : ∀ {x y : Nat}, Nat.beq x y = true → x = y := fun h => Nat.eq_of_beq_eq_true h
    unfold veqB at h
    split at h
    · rw [eq_of_beq h]
    · simp only [Bool.and_eq_true, decide_eq_true_eq] at h; rw [h.1, h.2]
    · rw [← beqBytes_eq] at h; rw [(Go.MapKept.bytes_beq _ _).1 h]
    · rfl
    · simp only [Bool.and_eq_true] at h; rw [nat h.1, nat h.2]
    · simp only [Bool.and_eq_true] at h; rw [nat h.1, nat h.2]
    · simp only [Bool.and_eq_true] at h; rw [nat h.1.1.1, nat h.1.1.2, nat h.1.2, nat h.2]
    · rfl
    · rw [nat h]
    · rfl
    · rfl
    · simp only [Bool.and_eq_true] at h; rw [nat h.1, ih _ _ h.2]
    · simp only [Bool.and_eq_true] at h; rw [nat h.1.1, rows h.1.2, rows h.2]
    · rw [rows h]
    · rfl
    · rw [nat h]
    · simp only [Bool.and_eq_true] at h; rw [nat h.1, nat h.2]
    · cases h
def meqB : List (Value × Value × Nat) → List (Value × Value × Nat) → Bool
  | [], [] => true
  | a :: l, b :: m => veqB 40 a.1 b.1 && veqB 40 a.2.1 b.2.1 && Nat.beq a.2.2 b.2.2 && meqB l m
  | _, _ => false
theorem meqB_eq : ∀ l m, meqB l m = true → l = m
  | [], [], _ => rfl
  | (a1, a2, a3) :: l, (b1, b2, b3) :: m, h => by
    simp only [meqB, Bool.and_eq_true] at h
    rw [veqB_eq _ _ _ h.1.1.1, veqB_eq _ _ _ h.1.1.2, Nat.eq_of_beq_eq_true h.1.2, meqB_eq l m h.2]
  | [], _ :: _, h => by cases h
  | _ :: _, [], h => by cases h
def bleqB : Blk → Blk → Bool
  | .cells c e x r, .cells c' e' x' r' => leqB (veqB 40) c c' && Nat.beq e e' && x == x' && r == r'
  | .map es n, .map es' n' => meqB es es' && Nat.beq n n'
  | _, _ => false
theorem bleqB_eq (a b : Blk) (h : bleqB a b = true) : a = b := by
  unfold bleqB at h
  split at h
  · simp only [Bool.and_eq_true] at h
    rw [leqB_eq (veqB_eq 40) _ _ h.1.1.1, Nat.eq_of_beq_eq_true h.1.1.2, eq_of_beq h.1.2, eq_of_beq h.2]
  · simp only [Bool.and_eq_true] at h
    rw [meqB_eq _ _ h.1, Nat.eq_of_beq_eq_true h.2]
  · cases h
/-- What is kept between two parts: slots, blocks. -/
structure Cut where
  ts : List (Nat × Value)
  hs : List (Nat × Blk)
  next : Nat
def Cut.T (S : Cut) : Tri Value := S.ts.foldl (fun T x => T.set 20 x.1 x.2) .nil
def Cut.H (S : Cut) : AH := ⟨S.hs.foldl (fun T x => T.set 40 x.1 x.2) .nil, S.next⟩
theorem foldl_get {α : Type} (f : Nat) : ∀ (l : List (Nat × α)) (T : Tri α) (k : Nat) (b : α), (∀ x ∈ l, x.1 + 1 < 2 ^ f) → (l.foldl (fun T x => T.set f x.1 x.2) T).get k = some b → T.get k = some b ∨ (k, b) ∈ l
  | [], T, k, b, _, h => .inl h
  | x :: l, T, k, b, hb, h => by
    rw [List.foldl_cons] at h
    rcases foldl_get f l _ k b (fun y hy => hb y (by simp [hy])) h with h1 | h1
    · rw [Tri.get_set f T x.1 k x.2 (hb x (by simp))] at h1
      by_cases e : k = x.1
      · rw [if_pos e] at h1; cases h1
        exact .inr (by rw [e]; simp)
      · rw [if_neg e] at h1; exact .inl h1
    · exact .inr (by simp [h1])
def Cut.fits (S : Cut) (T : Tri Value) (H : AH) : Bool :=
  S.ts.all (fun x => Nat.blt x.1 1048575 && match T.get x.1 with
    | some v => veqB 40 v x.2
    | none => false) &&
  S.hs.all (fun x => Nat.blt x.1 1099511627775 && match H.t.get x.1 with
    | some b => bleqB b x.2
    | none => false) && Nat.beq S.next H.next
theorem Rel.part {μ : Mp} {H K : AH} {w0 : Base} {w : World} (h : Rel μ H w0 w) (hs : ∀ k b, K.t.get k = some b → H.t.get k = some b) (hn : K.next = H.next) : Rel μ K w0 w :=
  ⟨h.os, h.tape, h.output, h.size, h.keep, by rw [hn]; exact h.small, by rw [hn]; exact h.num, fun k b hk => h.lies k b (hs k b hk), fun k j b c hk hj => h.apart k j b c (hs k b hk) (hs j c hj), fun k b hk => h.ro k b (hs k b hk)⟩
theorem Cut.st {S : Cut} {T : Tri Value} {H : AH} (h : S.fits T H = true) {μ : Mp} {n : Nat} {D : List Deferred} {w0 : Base} {a : Act} {w : World} (hs : St μ H T n D w0 a w) : St μ S.H S.T n D w0 a w := by
  simp only [Cut.fits, Bool.and_eq_true] at h
  obtain ⟨⟨h1, h2⟩, h3⟩ := h
  refine ⟨hs.rel.part (fun k b hk => ?_) (Nat.eq_of_beq_eq_true h3), fun t v hv => hs.tmps t v ?_, hs.size, hs.defers⟩
  · rcases foldl_get 40 S.hs .nil k b (fun x hx => by
      have := List.all_eq_true.1 h2 x hx
      rw [Bool.and_eq_true] at this
      have : x.1 < 1099511627775 := Nat.le_of_ble_eq_true this.1
      omega) hk with e | e
    · cases e
    · have := List.all_eq_true.1 h2 _ e
      rw [Bool.and_eq_true] at this
      have t2 := this.2
      split at t2
      · rename_i b' hb'
        rw [hb', bleqB_eq _ _ t2]
      · cases t2
  · rcases foldl_get 20 S.ts .nil t v (fun x hx => by
      have := List.all_eq_true.1 h1 x hx
      rw [Bool.and_eq_true] at this
      have : x.1 < 1048575 := Nat.le_of_ble_eq_true this.1
      omega) hv with e | e
    · cases e
    · have := List.all_eq_true.1 h1 _ e
      rw [Bool.and_eq_true] at this
      have t2 := this.2
      split at t2
      · rename_i b' hb'
        rw [hb', veqB_eq _ _ _ t2]
      · cases t2
def reaches (r : Option AOuts) (S : Cut) : Bool := match r with
  | some outs => outs.all fun p => match p with
    | (.normal, T, H, []) => S.fits T H
    | _ => false
  | none => false
def seqL : Code → Code
  | .seq x _ => x
  | c => c
def seqR : Code → Code
  | .seq _ y => y
  | c => c
def bodyOf (fn : Func) : Code := match fn.body with
  | some c => c
  | none => .skip
section
variable {P : Program} {E : Env} {Q : Eqs} {call : ACall} {round : ARound} {n : Nat}
theorem cut_seq (hE : E.Ok P) (hQ : Q.Ok P) (hC : CallOk P call) (hR : RoundOk P round) (hm : P.follows .mixedOrders = true) {f : Nat} {rd : Option Nat} {x y : Code} {T : Tri Value} {H : AH} {outs : AOuts} (S : Cut)
    (hx : reaches (acode P E Q call round n f rd x T H []) S = true) (hy : CodeOk P n rd y S.T S.H [] outs) : CodeOk P n rd (.seq x y) T H [] outs := by
  intro b0 μ D a w r mm Qx hs hM hr hk
  apply wpIn_seq
  unfold reaches at hx
  split at hx
  · rename_i outs1 h1
    refine acode_ok hE hQ hC hR hm x _ _ _ _ h1 b0 μ D a w r mm _ hs hM hr ?_
    intro p hp ν D1 a1 w1 q1 q2 q3
    have hb := List.all_eq_true.1 hx p hp
    split at hb
    · rename_i T1 H1
      exact hy b0 ν D1 a1 w1 r mm Qx (S.st hb q2) q3 (hr.mono q1) (fun q hq ξ D2 a2 w2 q4 => hk q hq ξ D2 a2 w2 (q1.trans q4))
    · cases hb
  · cases hx
def tellsC (E : Env) (fn : Func) (r : Option AOuts) : Bool := match r with
  | some outs => tells (abind (afin E fn) outs)
  | none => false
/-- A piece of a function's body, up to its end, tells true. -/
def CodeTells (P : Program) (E : Env) (fn : Func) (c : Code) (T : Tri Value) (H : AH) : Prop := ∃ outs, CodeOk P fn.ntmps none c T H [] outs ∧ tells (abind (afin E fn) outs) = true
theorem tells_end (hE : E.Ok P) (hQ : Q.Ok P) (hC : CallOk P call) (hR : RoundOk P round) (hm : P.follows .mixedOrders = true) {f : Nat} {fn : Func} {c : Code} {T : Tri Value} {H : AH}
    (hx : tellsC E fn (acode P E Q call round fn.ntmps f none c T H []) = true) : CodeTells P E fn c T H := by
  unfold tellsC at hx
  split at hx
  · rename_i outs h1
    exact ⟨outs, acode_ok hE hQ hC hR hm c _ _ _ _ h1, hx⟩
  · cases hx
theorem tells_seq (hE : E.Ok P) (hQ : Q.Ok P) (hC : CallOk P call) (hR : RoundOk P round) (hm : P.follows .mixedOrders = true) {f : Nat} {fn : Func} {c : Code} {T : Tri Value} {H : AH} (S : Cut) (hc : c = .seq (seqL c) (seqR c))
    (hx : reaches (acode P E Q call round fn.ntmps f none (seqL c) T H []) S = true) (hy : CodeTells P E fn (seqR c) S.T S.H) : CodeTells P E fn c T H := by
  obtain ⟨outs, h1, h2⟩ := hy
  refine ⟨outs, ?_, h2⟩
  rw [hc]
  exact cut_seq hE hQ hC hR hm S hx h1
theorem tells_calls (hE : E.Ok P) {f : Nat} {fn : Func} (hf : P.funcs[f]? = some fn) (hc : fn.body = some (bodyOf fn)) {vs : List Value} {args : Array Value} (hb : (Nat.ble vs.length fn.ntmps && Nat.blt fn.ntmps 1048575) = true)
    {w0 : Base} {μ : Mp} {H : AH} {w : World} (h : Rel μ H w0 w) (hl : LR μ vs args.toList) (ht : CodeTells P E fn (bodyOf fn) (atmps vs 0 .nil) H) : Calls P f args w fun e w' => e = .returned (.bool true) ∧ ∃ K ν, Rel ν K w0 w' := by
  obtain ⟨outs0, hcode, htell⟩ := ht
  unfold tells at htell
  split at htell
  case h_2 => cases htell
  rename_i outs hab
  rw [Bool.and_eq_true] at hb
  have h1 := Nat.le_of_ble_eq_true hb.1
  have h2 : fn.ntmps < 1048575 := Nat.le_of_ble_eq_true hb.2
  have hlen : vs.length = args.size := by rw [hl.1]; simp
  have main : CallsIn (fw none) 0 P f args w (Back μ w0 outs) := by
    refine callsIn_of_wp_marks hf hc trivial ?_
    have hst : St μ H (atmps vs 0 .nil) fn.ntmps [] w0 { tmps := args ++ Array.replicate (fn.ntmps - args.size) undef, defers := [] } w := by
      refine ⟨h, fun t u hu => ?_, by simp; omega, rfl⟩
      rcases atmps_get vs 0 .nil t u (by omega) hu with ⟨_, h3⟩ | ⟨h3, _⟩
      · rw [Nat.sub_zero] at h3
        have ht : t < vs.length := (List.getElem?_eq_some_iff.1 h3).1
        have ht' : t < args.size := by omega
        refine ⟨args[t], ?_, hl.2 t u _ h3 (by simp [ht'])⟩
        show (args ++ _)[t]? = _
        rw [Array.getElem?_append_left ht', Array.getElem?_eq_getElem ht']
      · cases h3
    refine hcode w0 μ [] _ w none 0 _ hst trivial trivial ?_
    rintro ⟨ax, T', H1, M⟩ hp ν D' a' w' hle hs' hM'
    obtain ⟨m1, e1, e2⟩ := abind_mem hab _ hp
    have fin : (match akill H1 M with
        | some H2 => match aresults E T' H2 fn.results.toList with
          | some l => some [(aout l, H2)]
          | none => none
        | none => none) = some m1 → LeavesInM (fw none) 0 P fn a'.tmps (Back μ w0 outs) a'.defers .returning w' := by
      intro he
      split at he
      · rename_i H2 hH2
        split at he
        · rename_i l2 hl2
          cases he
          have := akill_ok (P := P) (fn := fn) (tmps := a'.tmps) (R := Back μ w0 outs) (r := none) (mm := 0) M D' H1 H2 w' hH2 hs'.rel hM' (fun w2 hw2 => by
            obtain ⟨v', h3, h4⟩ := aout_ok (P := P) hE hw2 hs'.tmps hl2
            exact ⟨v', h3, (aout l2, H2), e2 _ (by simp), ν, v', rfl, hle, hw2, h4⟩)
          rw [hs'.defers]
          exact this
        · cases he
      · cases he
    cases ax with
    | normal => exact fin e1
    | ret => exact fin e1
    | exit id => cases e1
  refine (callsIn_wide (n := 0)).1 (CallsIn.mono (callsIn_fw (r' := none) main) ?_)
  rintro _ w' ⟨p, hp, ν, v', rfl, _, k2, k3⟩
  have hb := List.all_eq_true.1 htell p hp
  refine ⟨?_, _, ν, k2⟩
  split at hb
  · rename_i b hb2
    subst hb
    rw [hb2] at k3
    cases k3
    rfl
  · cases hb
end
end AM
end Go.Proofs.YtoicnghjjgkebaaGreatDoor
