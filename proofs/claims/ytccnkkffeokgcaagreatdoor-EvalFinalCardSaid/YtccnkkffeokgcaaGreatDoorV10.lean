/-
  The abstract machine's operations, seventh part: signs, conversions, lengths; texts out of bytes and bytes out of texts. No condition.
-/
import Derived.Test.YtccnkkffeokgcaaGreatDoorV9
import Derived.Laws.BytesString
namespace Go.Proofs.YtccnkkffeokgcaaGreatDoor
namespace AM
open Go.RowKit

section
variable {P : Program} {E : Env} {Q : Eqs} {μ : Mp} {H : AH} {w0 : Base} {w : World}
def asc (r : Option Value) : Option Value := match r with
  | some v => bif isScalar v then some v else none
  | none => none
theorem asc_ok (h : Rel μ H w0 w) {s : Sem Value} {v : Value} (e : asc (pureRun P s) = some v) : GotV P s μ w0 w v H := by
  unfold asc at e
  split at e
  · rename_i u hu
    cases hs : isScalar u with
    | false => rw [hs] at e; cases e
    | true =>
      rw [hs] at e; cases e
      exact .pure h (pureRun_ok hu w) (.of_scalar μ hs)
  · cases e
def aguard (Q : Eqs) (t : Nat) (cx cy : Bool) : Value → Value → Bool
  | .nilIface, .nilIface => cx || cy
  | .agg _, .agg _ => Q.ok t
  | _, _ => true
def isConstB : Operand → Bool
  | .const _ => true
  | _ => false
theorem aguard_ok (hQ : Q.Ok P) {op : BinOp} {t : Nat} {x y : Operand} {v v' u u' : Value} (hx : VR μ v v') (hy : VR μ u u') (hg : aguard Q t (isConstB x) (isConstB y) v u = true) : (eqGuard op t x y v' u').run P w = .ok () w := by
  cases hx with
  | bool b => rw [eqGuard_at_bool]; rfl
  | int k n => rw [eqGuard_at_int]; rfl
  | string s => rw [eqGuard_at_string]; rfl
  | pnil => rw [eqGuard_at_pointer]; rfl
  | ptr o e => rw [eqGuard_at_pointer]; rfl
  | snil n c => rw [eqGuard_at_slice]; rfl
  | sl o n c e e2 => rw [eqGuard_at_slice]; rfl
  | slx o n c c' e e1 e2 e3 e4 e5 e6 => rw [eqGuard_at_slice]; rfl
  | mnil => rw [eqGuard_at_map]; rfl
  | map e => rw [eqGuard_at_map]; rfl
  | nilFunc => rw [eqGuard_at_nilFunc]; rfl
  | iface t v => rw [eqGuard_at_iface]; rfl
  | func f _ _ _ _ => rw [eqGuard_at_func]; rfl
  | tuple _ _ => rw [eqGuard_at_tuple]; rfl
  | unkI k n => rw [eqGuard_at_int]; rfl
  | unkS s => rw [eqGuard_at_string]; rfl
  | unkN n => rw [eqGuard_at_int]; rfl
  | unkB b => rw [eqGuard_at_bool]; rfl
  | yield _ => rw [eqGuard_at_func]; rfl
  | nilIface =>
    cases hy with
    | nilIface =>
      simp only [aguard, Bool.or_eq_true] at hg
      rcases hg with hg | hg
      · cases x with
        | const c => rw [eqGuard_nil_constL]; rfl
        | _ => cases hg
      · cases y with
        | const c => rw [eqGuard_nil_constR]; rfl
        | _ => cases hg
    | _ => cases op <;> rfl
  | agg h1 h2 =>
    cases hy with
    | agg h3 h4 => exact run_eqGuard_agg w op t x y _ _ (hQ.guard t hg)
    | _ => cases op <;> rfl
/-- Of which no more is known than its kind. -/
def isUnk : Value → Bool
  | .chan _ => true
  | _ => false
def aunk : BinOp → Value → Value → Option Value
  | .gtr, .chan (some 1), .int .i64 _ => some (.chan (some 2))
  | .lss, .chan (some 1), .int .i64 _ => some (.chan (some 2))
  | _, _, _ => none
theorem aunk_ok (h : Rel μ H w0 w) {op : BinOp} {t : Nat} {v v' u u' r : Value} (hx : VR μ v v') (hy : VR μ u u') (e : aunk op v u = some r) : GotV P (binOp op t v' u') μ w0 w r H := by
  unfold aunk at e
  split at e
  · cases hx; cases hy; cases e
    exact .pure h (v' := .bool _) rfl (.unkB _)
  · cases hx; cases hy; cases e
    exact .pure h (v' := .bool _) rfl (.unkB _)
  · cases e
theorem binOp_eql_gen {t : Nat} {v v' u u' : Value} (hx : VR μ v v') (hy : VR μ u u') (h : (isScalar v && isScalar u) = false) (hk : (isUnk v || isUnk u) = false) : binOp .eql t v' u' = (do pure (.bool (← Op.equal t v' u'))) := by
  cases hx <;> first | (simp [isUnk] at hk; done) | (cases hy <;> first | rfl | (simp [isUnk] at hk; done) | (simp [isScalar] at h))
theorem binOp_neq_gen {t : Nat} {v v' u u' : Value} (hx : VR μ v v') (hy : VR μ u u') (h : (isScalar v && isScalar u) = false) (hk : (isUnk v || isUnk u) = false) : binOp .neq t v' u' = (do pure (.bool (!(← Op.equal t v' u')))) := by
  cases hx <;> first | (simp [isUnk] at hk; done) | (cases hy <;> first | rfl | (simp [isUnk] at hk; done) | (simp [isScalar] at h))
def abin (P : Program) (E : Env) (Q : Eqs) (H : AH) (op : BinOp) (t : Nat) (cx cy : Bool) (v u : Value) : Option Value :=
  bif aguard Q t cx cy v u then
    (bif isUnk v || isUnk u then aunk op v u else bif isScalar v && isScalar u then asc (pureRun P (binOp op t v u)) else match op with
      | .eql => match aeq E Q 40 t v u with
        | some b => some (.bool b)
        | none => none
      | .neq => match aeq E Q 40 t v u with
        | some b => some (.bool !b)
        | none => none
      | _ => none)
  else none
theorem abin_ok (hE : E.Ok P) (hQ : Q.Ok P) (h : Rel μ H w0 w) {op : BinOp} {t : Nat} {x y : Operand} {v v' u u' r : Value} (hx : VR μ v v') (hy : VR μ u u') (e : abin P E Q H op t (isConstB x) (isConstB y) v u = some r) :
    GotV P (do eqGuard op t x y v' u'; binOp op t v' u') μ w0 w r H := by
  unfold abin at e
  cases hg : aguard Q t (isConstB x) (isConstB y) v u with
  | false => rw [hg] at e; cases e
  | true =>
    rw [hg, cond_true] at e
    have hgr := aguard_ok (P := P) (w := w) (op := op) hQ hx hy hg
    have key : ∀ s : Sem Value, GotV P s μ w0 w r H → GotV P (do eqGuard op t x y v' u'; s) μ w0 w r H := by
      rintro s ⟨ν, v1, w1, r1, r2⟩
      refine ⟨ν, v1, w1, ?_, r2⟩
      simp only [Sem.run_bind, hgr, Result.andThen_ok, r1]
    apply key
    cases hk : (isUnk v || isUnk u) with
    | true =>
      rw [hk, cond_true] at e
      exact aunk_ok h hx hy e
    | false =>
    rw [hk, cond_false] at e
    cases hs : (isScalar v && isScalar u) with
    | true =>
      rw [hs, cond_true] at e
      rw [Bool.and_eq_true] at hs
      rw [hx.scalar hs.1, hy.scalar hs.2]
      exact asc_ok h e
    | false =>
      rw [hs, cond_false] at e
      split at e
      · split at e
        · rename_i b hb
          cases e
          rw [binOp_eql_gen hx hy hs hk]
          refine .pure h (v' := .bool b) ?_ (.bool b)
          have := aeq_ok hE hQ h 40 t v v' u u' b 10000 (by decide) hx hy hb
          simp only [Sem.run_bind, Op.equal, Op.maxDepth, this, Result.andThen_ok, Sem.run_pure]
        · cases e
      · split at e
        · rename_i b hb
          cases e
          rw [binOp_neq_gen hx hy hs hk]
          refine .pure h (v' := .bool !b) ?_ (.bool _)
          have := aeq_ok hE hQ h 40 t v v' u u' b 10000 (by decide) hx hy hb
          simp only [Sem.run_bind, Op.equal, Op.maxDepth, this, Result.andThen_ok, Sem.run_pure]
        · cases e
      · cases e
def aun (P : Program) (op : UnOp) (v : Value) : Option Value := bif isScalar v then asc (pureRun P (Op.unary op v)) else none
theorem aun_ok (h : Rel μ H w0 w) {op : UnOp} {v v' r : Value} (hx : VR μ v v') (e : aun P op v = some r) : GotV P (Op.unary op v') μ w0 w r H := by
  unfold aun at e
  cases hs : isScalar v with
  | false => rw [hs] at e; cases e
  | true =>
    rw [hs, cond_true] at e
    rw [hx.scalar hs]
    exact asc_ok h e
/-- Bytes of cells. -/
def abytes : List Value → Option (List UInt8)
  | [] => some []
  | .int .u8 n :: l => match abytes l with
    | some r => some (UInt8.ofNat n.toNat :: r)
    | none => none
  | _ :: _ => none
theorem abytes_ok : ∀ (l : List Value) (r : List UInt8), abytes l = some r → ∃ ns : List Int, l = ns.map (Value.int .u8) ∧ r = ns.map fun n => UInt8.ofNat n.toNat
  | [], r, e => by cases e; exact ⟨[], rfl, rfl⟩
  | .int .u8 n :: l, r, e => by
    simp only [abytes] at e
    split at e
    · rename_i r' hr
      cases e
      obtain ⟨ns, rfl, rfl⟩ := abytes_ok l r' hr
      exact ⟨n :: ns, rfl, rfl⟩
    · cases e
  | .int .i8 _ :: _, _, e | .int .i16 _ :: _, _, e | .int .i32 _ :: _, _, e | .int .i64 _ :: _, _, e | .int .u16 _ :: _, _, e | .int .u32 _ :: _, _, e | .int .u64 _ :: _, _, e => by simp [abytes] at e
  | .bool _ :: _, _, e | .float _ _ :: _, _, e | .complex _ _ _ :: _, _, e | .string _ :: _, _, e | .pointer _ :: _, _, e | .slice _ _ _ :: _, _, e | .map _ :: _, _, e | .chan _ :: _, _, e | .func _ _ _ :: _, _, e | .nilFunc :: _, _, e | .iface _ _ :: _, _, e | .nilIface :: _, _, e | .agg _ :: _, _, e | .tuple _ :: _, _, e => by simp [abytes] at e
theorem foldl_push (ns : List Int) (s : ByteArray) : ns.foldl (fun r n => r.push (UInt8.ofNat n.toNat)) s = ⟨(s.data.toList ++ ns.map fun n => UInt8.ofNat n.toNat).toArray⟩ := by
  induction ns generalizing s with
  | nil => simp
  | cons n ns ih =>
    rw [List.foldl_cons, ih]
    simp [ByteArray.push]
theorem LR.ints {μ : Mp} : ∀ (ns : List Int) (l : List Value), LR μ (ns.map (Value.int .u8)) l → l = ns.map (Value.int .u8)
  | [], l, h => by rw [h.inv_nil]; rfl
  | n :: ns, l, h => by
    obtain ⟨v, m, rfl, hv, hm⟩ := LR.inv (μ := μ) h
    cases hv
    rw [LR.ints ns m hm]; rfl
/-- Conversions: numbers; texts to bytes; bytes to texts. -/
def aconv (P : Program) (E : Env) (H : AH) (src dst : Nat) (v : Value) : Option (Value × AH) := match E.und src, E.und dst, v with
  | some .string, some (.slice el), .string s => match E.und el with
    | some (.int .u8) => bif Nat.blt (H.next + 1) 1099511627776 && Nat.blt s.data.toList.length big then
        some (.slice (some ⟨H.next, 0, none⟩) s.data.toList.length (1 * big + s.data.toList.length), H.alloc (.cells (s.data.toList.map fun b => .int .u8 b.toNat) el false true)) else none
    | _ => none
  | some (.slice el), some .string, .slice none _ _ => match E.und el with
    | some (.int .u8) => some (.string ⟨#[]⟩, H)
    | _ => none
  | some (.slice el), some .string, .slice (some ⟨k, o, none⟩) n _ => match E.und el, H.t.get k with
    | some (.int .u8), some (.cells c _ _ _) => bif Nat.ble (o + n) c.length then (match abytes ((c.drop o).take n) with
        | some r => some (.string ⟨r.toArray⟩, H)
        | none => none) else none
    | _, _ => none
  | some (.slice _), some (.slice el), .slice (some ⟨k, o, none⟩) n c => match E.und el, H.t.get k with
    | some (.int .u8), some (.cells _ _ _ true) => bif Nat.beq src dst then some (.slice (some ⟨k, o, none⟩) n c, H) else none
    | _, _ => none
  | some _, some _, _ => bif isScalar v then (match asc (pureRun P (convert src dst v)) with
    | some r => some (r, H)
    | none => none) else none
  | _, _, _ => none
end
end AM
end Go.Proofs.YtccnkkffeokgcaaGreatDoor
