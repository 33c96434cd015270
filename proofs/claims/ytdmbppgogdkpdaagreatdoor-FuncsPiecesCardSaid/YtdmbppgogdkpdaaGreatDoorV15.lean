/-
  The abstract machine's operations, seventh part: signs, conversions, lengths; texts out of bytes and bytes out of texts. No condition.
  The abstract machine's operations, eighth part: conversions answer as the model's; lengths; functions and interfaces; maps are made. No condition.
  The abstract machine's operations, ninth part: append. No condition.
  The abstract machine's operations, ninth part: append answers as the model's. No condition.
  The abstract machine's operations, tenth part: maps. No condition.
  The abstract machine's operations, eleventh part: maps are asked and written. No condition.
-/
import Derived.Test.YtdmbppgogdkpdaaGreatDoorV9
import Derived.Laws.BytesString
import Derived.Lib.Builder
import Derived.Lib.UnsafeStr
import Derived.Deep.AppendSrc
import Derived.Lib.AppendZerosOnto
set_option linter.unusedSectionVars false
namespace Go.Proofs.YtdmbppgogdkpdaaGreatDoor
namespace AM
open Go.RowKit
variable [Toks]

section
variable {P : Program} {E : Env} {Q : Eqs} {μ : Mp} {H : AH} {w0 : Base} {w : World}
def asc (r : Option Value) : Option Value := match r with
  | some v => bif isScalar v then some v else none
  | none => none
theorem asc_ok (h : Rel μ H w0 w) {s : Sem Value} {v : Value} (e : asc (pureRun P s) = some v) : GotV P s μ w0 w v H := by
  unfold asc at e
  split at e
  · rename_i u hu
    cases hs : isScalar u with
    | false => rw [hs] at e; cases e
    | true =>
      rw [hs] at e; cases e
      exact .pure h (pureRun_ok hu w) (.of_scalar μ hs)
  · cases e
def aguard (Q : Eqs) (t : Nat) (cx cy : Bool) : Value → Value → Bool
  | .nilIface, .nilIface => cx || cy
  | .agg _, .agg _ => Q.ok t
  | _, _ => true
def isConstB : Operand → Bool
  | .const _ => true
  | _ => false
theorem aguard_ok (hQ : Q.Ok P) {op : BinOp} {t : Nat} {x y : Operand} {v v' u u' : Value} (hx : VR μ v v') (hy : VR μ u u') (hg : aguard Q t (isConstB x) (isConstB y) v u = true) : (eqGuard op t x y v' u').run P w = .ok () w := by
  cases hx with
  | bool b => rw [eqGuard_at_bool]; rfl
  | int k n => rw [eqGuard_at_int]; rfl
  | string s => rw [eqGuard_at_string]; rfl
  | pnil => rw [eqGuard_at_pointer]; rfl
  | ptr o e => rw [eqGuard_at_pointer]; rfl
  | snil n c => rw [eqGuard_at_slice]; rfl
  | sl o n c e e2 => rw [eqGuard_at_slice]; rfl
  | slx o n c c' e e1 e2 e3 e4 e5 e6 => rw [eqGuard_at_slice]; rfl
  | mnil => rw [eqGuard_at_map]; rfl
  | map e => rw [eqGuard_at_map]; rfl
  | nilFunc => rw [eqGuard_at_nilFunc]; rfl
  | iface t v => rw [eqGuard_at_iface]; rfl
  | func f _ _ _ _ => rw [eqGuard_at_func]; rfl
  | tuple _ _ => rw [eqGuard_at_tuple]; rfl
  | unkI k n => rw [eqGuard_at_int]; rfl
  | unkS s => rw [eqGuard_at_string]; rfl
  | unkN n => rw [eqGuard_at_int]; rfl
  | unkB b => rw [eqGuard_at_bool]; rfl
  | tokI q k => rw [eqGuard_at_int]; rfl
  | tokS q k => rw [eqGuard_at_string]; rfl
  | tokB q k => rw [eqGuard_at_bool]; rfl
  | yield _ => rw [eqGuard_at_func]; rfl
  | nilIface =>
    cases hy with
    | nilIface =>
      simp only [aguard, Bool.or_eq_true] at hg
      rcases hg with hg | hg
      · cases x with
        | const c => rw [eqGuard_nil_constL]; rfl
        | _ => cases hg
      · cases y with
        | const c => rw [eqGuard_nil_constR]; rfl
        | _ => cases hg
    | _ => cases op <;> rfl
  | agg h1 h2 =>
    cases hy with
    | agg h3 h4 => exact run_eqGuard_agg w op t x y _ _ (hQ.guard t hg)
    | _ => cases op <;> rfl
/-- Of which no more is known than its kind. -/
def isUnk : Value → Bool
  | .chan _ | .complex _ _ _ => true
  | _ => false
def aunk (E : Env) : BinOp → Value → Value → Option Value
  | .gtr, .chan (some 1), .int .i64 _ => some (.chan (some 2))
  | .lss, .chan (some 1), .int .i64 _ => some (.chan (some 2))
  | .eql, .complex _ 0 k, .complex _ 0 j => bif Nat.beq k j then some (.bool true) else none
  | .eql, .complex _ 1 k, .complex _ 1 j => bif Nat.beq k j then some (.bool true) else none
  | .neq, .complex _ 0 k, .complex _ 0 j => bif Nat.beq k j then some (.bool false) else none
  | .neq, .complex _ 1 k, .complex _ 1 j => bif Nat.beq k j then some (.bool false) else none
  | .eql, .complex _ 1 k, .string s => match E.teqS k s with
    | some b => some (.bool b)
    | none => none
  | .neq, .complex _ 1 k, .string s => match E.teqS k s with
    | some b => some (.bool !b)
    | none => none
  | op, .complex _ 0 k, u => bif isScalar u then (match E.tbin op k u with
    | some r => bif isScalar r then some r else none
    | none => none) else none
  | _, _, _ => none
theorem aunk_ok (hE : E.Ok P) (h : Rel μ H w0 w) {op : BinOp} {t : Nat} {v v' u u' r : Value} (hx : VR μ v v') (hy : VR μ u u') (e : aunk E op v u = some r) : GotV P (binOp op t v' u') μ w0 w r H := by
  unfold aunk at e
  split at e
  · cases hx; cases hy; cases e
    exact .pure h (v' := .bool _) rfl (.unkB _)
  · cases hx; cases hy; cases e
    exact .pure h (v' := .bool _) rfl (.unkB _)
  · cases hx; cases hy
    rename_i _ k _ j
    cases hk : Nat.beq k j with
    | false => rw [hk] at e; cases e
    | true =>
      rw [hk, cond_true] at e
      cases e
      obtain rfl := Nat.eq_of_beq_eq_true hk
      exact .pure h (v' := .bool true) (by simp [go_sem]) (.bool _)
  · cases hx; cases hy
    rename_i _ k _ j
    cases hk : Nat.beq k j with
    | false => rw [hk] at e; cases e
    | true =>
      rw [hk, cond_true] at e
      cases e
      obtain rfl := Nat.eq_of_beq_eq_true hk
      exact .pure h (v' := .bool true) (by simp [go_sem]) (.bool _)
  · cases hx; cases hy
    rename_i _ k _ j
    cases hk : Nat.beq k j with
    | false => rw [hk] at e; cases e
    | true =>
      rw [hk, cond_true] at e
      cases e
      obtain rfl := Nat.eq_of_beq_eq_true hk
      exact .pure h (v' := .bool false) (by simp [go_sem]) (.bool _)
  · cases hx; cases hy
    rename_i _ k _ j
    cases hk : Nat.beq k j with
    | false => rw [hk] at e; cases e
    | true =>
      rw [hk, cond_true] at e
      cases e
      obtain rfl := Nat.eq_of_beq_eq_true hk
      exact .pure h (v' := .bool false) (by simp [go_sem]) (.bool _)
  · cases hx; cases hy
    split at e
    · rename_i b hb
      cases e
      have := hE.teqS _ _ _ hb
      exact .pure h (v' := .bool b) (by rw [← this, binOp_string_eql, beq_toListBytes]; rfl) (.bool _)
    · cases e
  · cases hx; cases hy
    split at e
    · rename_i b hb
      cases e
      have := hE.teqS _ _ _ hb
      exact .pure h (v' := .bool !b) (by rw [← this, binOp_string_neq, beq_toListBytes]; rfl) (.bool _)
    · cases e
  · rename_i u0 hu0
    cases hx
    cases hs : isScalar u with
    | false => rw [hs] at e; cases e
    | true =>
      rw [hs, cond_true] at e
      split at e
      · rename_i r0 hr0
        cases hs2 : isScalar r0 with
        | false => rw [hs2] at e; cases e
        | true =>
          rw [hs2, cond_true] at e
          cases e
          rw [hy.scalar hs]
          exact .pure h (hE.tbin _ _ _ _ hr0 t w) (.of_scalar μ hs2)
      · cases e
  · cases e
theorem binOp_eql_gen {t : Nat} {v v' u u' : Value} (hx : VR μ v v') (hy : VR μ u u') (h : (isScalar v && isScalar u) = false) (hk : (isUnk v || isUnk u) = false) : binOp .eql t v' u' = (do pure (.bool (← Op.equal t v' u'))) := by
  cases hx <;> first | (simp [isUnk] at hk; done) | (cases hy <;> first | rfl | (simp [isUnk] at hk; done) | (simp [isScalar] at h))
theorem binOp_neq_gen {t : Nat} {v v' u u' : Value} (hx : VR μ v v') (hy : VR μ u u') (h : (isScalar v && isScalar u) = false) (hk : (isUnk v || isUnk u) = false) : binOp .neq t v' u' = (do pure (.bool (!(← Op.equal t v' u')))) := by
  cases hx <;> first | (simp [isUnk] at hk; done) | (cases hy <;> first | rfl | (simp [isUnk] at hk; done) | (simp [isScalar] at h))
def abin (P : Program) (E : Env) (Q : Eqs) (H : AH) (op : BinOp) (t : Nat) (cx cy : Bool) (v u : Value) : Option Value :=
  bif aguard Q t cx cy v u then
    (bif isUnk v || isUnk u then aunk E op v u else bif isScalar v && isScalar u then asc (pureRun P (binOp op t v u)) else match op with
      | .eql => match aeq E Q 40 t v u with
        | some b => some (.bool b)
        | none => none
      | .neq => match aeq E Q 40 t v u with
        | some b => some (.bool !b)
        | none => none
      | _ => none)
  else none
theorem abin_ok (hE : E.Ok P) (hQ : Q.Ok P) (h : Rel μ H w0 w) {op : BinOp} {t : Nat} {x y : Operand} {v v' u u' r : Value} (hx : VR μ v v') (hy : VR μ u u') (e : abin P E Q H op t (isConstB x) (isConstB y) v u = some r) :
    GotV P (do eqGuard op t x y v' u'; binOp op t v' u') μ w0 w r H := by
  unfold abin at e
  cases hg : aguard Q t (isConstB x) (isConstB y) v u with
  | false => rw [hg] at e; cases e
  | true =>
    rw [hg, cond_true] at e
    have hgr := aguard_ok (P := P) (w := w) (op := op) hQ hx hy hg
    have key : ∀ s : Sem Value, GotV P s μ w0 w r H → GotV P (do eqGuard op t x y v' u'; s) μ w0 w r H := by
      rintro s ⟨ν, v1, w1, r1, r2⟩
      refine ⟨ν, v1, w1, ?_, r2⟩
      simp only [Sem.run_bind, hgr, Result.andThen_ok, r1]
    apply key
    cases hk : (isUnk v || isUnk u) with
    | true =>
      rw [hk, cond_true] at e
      exact aunk_ok hE h hx hy e
    | false =>
    rw [hk, cond_false] at e
    cases hs : (isScalar v && isScalar u) with
    | true =>
      rw [hs, cond_true] at e
      rw [Bool.and_eq_true] at hs
      rw [hx.scalar hs.1, hy.scalar hs.2]
      exact asc_ok h e
    | false =>
      rw [hs, cond_false] at e
      split at e
      · split at e
        · rename_i b hb
          cases e
          rw [binOp_eql_gen hx hy hs hk]
          refine .pure h (v' := .bool b) ?_ (.bool b)
          have := aeq_ok hE hQ h 40 t v v' u u' b 10000 (by decide) hx hy hb
          simp only [Sem.run_bind, Op.equal, Op.maxDepth, this, Result.andThen_ok, Sem.run_pure]
        · cases e
      · split at e
        · rename_i b hb
          cases e
          rw [binOp_neq_gen hx hy hs hk]
          refine .pure h (v' := .bool !b) ?_ (.bool _)
          have := aeq_ok hE hQ h 40 t v v' u u' b 10000 (by decide) hx hy hb
          simp only [Sem.run_bind, Op.equal, Op.maxDepth, this, Result.andThen_ok, Sem.run_pure]
        · cases e
      · cases e
def aun (P : Program) (op : UnOp) (v : Value) : Option Value := bif isScalar v then asc (pureRun P (Op.unary op v)) else none
theorem aun_ok (h : Rel μ H w0 w) {op : UnOp} {v v' r : Value} (hx : VR μ v v') (e : aun P op v = some r) : GotV P (Op.unary op v') μ w0 w r H := by
  unfold aun at e
  cases hs : isScalar v with
  | false => rw [hs] at e; cases e
  | true =>
    rw [hs, cond_true] at e
    rw [hx.scalar hs]
    exact asc_ok h e
/-- Bytes of cells. -/
def abytes : List Value → Option (List UInt8)
  | [] => some []
  | .int .u8 n :: l => match abytes l with
    | some r => some (UInt8.ofNat n.toNat :: r)
    | none => none
  | _ :: _ => none
theorem abytes_ok : ∀ (l : List Value) (r : List UInt8), abytes l = some r → ∃ ns : List Int, l = ns.map (Value.int .u8) ∧ r = ns.map fun n => UInt8.ofNat n.toNat
  | [], r, e => by cases e; exact ⟨[], rfl, rfl⟩
  | .int .u8 n :: l, r, e => by
    simp only [abytes] at e
    split at e
    · rename_i r' hr
      cases e
      obtain ⟨ns, rfl, rfl⟩ := abytes_ok l r' hr
      exact ⟨n :: ns, rfl, rfl⟩
    · cases e
  | .int .i8 _ :: _, _, e | .int .i16 _ :: _, _, e | .int .i32 _ :: _, _, e | .int .i64 _ :: _, _, e | .int .u16 _ :: _, _, e | .int .u32 _ :: _, _, e | .int .u64 _ :: _, _, e => by simp [abytes] at e
  | .bool _ :: _, _, e | .float _ _ :: _, _, e | .complex _ _ _ :: _, _, e | .string _ :: _, _, e | .pointer _ :: _, _, e | .slice _ _ _ :: _, _, e | .map _ :: _, _, e | .chan _ :: _, _, e | .func _ _ _ :: _, _, e | .nilFunc :: _, _, e | .iface _ _ :: _, _, e | .nilIface :: _, _, e | .agg _ :: _, _, e | .tuple _ :: _, _, e => by simp [abytes] at e
theorem foldl_push (ns : List Int) (s : ByteArray) : ns.foldl (fun r n => r.push (UInt8.ofNat n.toNat)) s = ⟨(s.data.toList ++ ns.map fun n => UInt8.ofNat n.toNat).toArray⟩ := by
  induction ns generalizing s with
  | nil => simp
  | cons n ns ih =>
    rw [List.foldl_cons, ih]
    simp [ByteArray.push]
theorem LR.ints {μ : Mp} : ∀ (ns : List Int) (l : List Value), LR μ (ns.map (Value.int .u8)) l → l = ns.map (Value.int .u8)
  | [], l, h => by rw [h.inv_nil]; rfl
  | n :: ns, l, h => by
    obtain ⟨v, m, rfl, hv, hm⟩ := LR.inv (μ := μ) h
    cases hv
    rw [LR.ints ns m hm]; rfl
/-- Conversions: numbers; texts to bytes; bytes to texts. -/
def aconv (P : Program) (E : Env) (H : AH) (src dst : Nat) (v : Value) : Option (Value × AH) := match E.und src, E.und dst, v with
  | some .string, some (.slice el), .string s => match E.und el with
    | some (.int .u8) => bif Nat.blt (H.next + 1) 1099511627776 && Nat.blt s.data.toList.length big then
        some (.slice (some ⟨H.next, 0, none⟩) s.data.toList.length (1 * big + s.data.toList.length), H.alloc (.cells (s.data.toList.map fun b => .int .u8 b.toNat) el false true)) else none
    | _ => none
  | some (.slice el), some .string, .slice none _ _ => match E.und el with
    | some (.int .u8) => some (.string ⟨#[]⟩, H)
    | _ => none
  | some (.slice el), some .string, .slice (some ⟨k, o, none⟩) n _ => match E.und el, H.t.get k with
    | some (.int .u8), some (.cells c _ _ _) => bif Nat.ble (o + n) c.length then (match abytes ((c.drop o).take n) with
        | some r => some (.string ⟨r.toArray⟩, H)
        | none => none) else none
    | _, _ => none
  | some (.slice _), some (.slice el), .slice (some ⟨k, o, none⟩) n c => match E.und el, H.t.get k with
    | some (.int .u8), some (.cells _ _ _ true) => bif Nat.beq src dst then some (.slice (some ⟨k, o, none⟩) n c, H) else none
    | _, _ => none
  | some _, some _, .complex q 0 k => match E.tcv src dst k with
    | some j => some (.complex q 0 j, H)
    | none => none
  | some _, some _, _ => bif isScalar v then (match asc (pureRun P (convert src dst v)) with
    | some r => some (r, H)
    | none => none) else none
  | _, _, _ => none
end
end AM
end Go.Proofs.YtdmbppgogdkpdaaGreatDoor
namespace Go.Proofs.YtdmbppgogdkpdaaGreatDoor
namespace AM
open Go.RowKit
variable [Toks]

theorem Rel.drew {μ : Mp} {H : AH} {w0 : Base} {w : World} (h : Rel μ H w0 w) : Rel μ H w0 w.drew := ⟨h.os, h.tape, h.output, h.size, h.keep, h.small, h.num, h.lies, h.apart, h.ro⟩
theorem alloc_freeze (w : World) (c : Array Value) (e : TypeId) (n : Nat) : (w.alloc (.cells c e)).freeze ⟨w.heap.size, n, none⟩ 1 = w.alloc (.cells c e (n, n + 1)) := by
  unfold World.freeze World.alloc
  rw [if_neg (by decide)]
  congr 1
  apply Array.ext_getElem?
  intro i
  rw [Array.getElem?_modify, Array.getElem?_push, Array.getElem?_push]
  by_cases e : w.heap.size = i
  · subst e; simp
  · rw [if_neg e]
    have : ¬ i = w.heap.size := fun e' => e e'.symm
    rw [if_neg this, if_neg this]
section
variable {P : Program} {E : Env} {Q : Eqs} {μ : Mp} {H : AH} {w0 : Base} {w : World}
theorem stob_ok (h : Rel μ H w0 w) (el : TypeId) (s : ByteArray) (hn : H.next + 1 < 2 ^ 40) (hb : s.data.toList.length < big) :
    GotV P (Conv.stringToBytes el s) μ w0 w (.slice (some ⟨H.next, 0, none⟩) s.data.toList.length (1 * big + s.data.toList.length)) (H.alloc (.cells (s.data.toList.map fun b => .int .u8 b.toNat) el false true)) := by
  obtain ⟨cap, hcap, hrun⟩ : ∃ cap, s.size ≤ cap ∧ (choose (.appendCap s.size 0 el)).run P w = .ok cap w.drew := by
    refine ⟨(Question.appendCap s.size 0 el).cut (w.tape w.drawn (.appendCap s.size 0 el)), ?_, ?_⟩
    · simp only [Question.cut]; omega
    · simp only [run_choose, Question.forced, Bool.false_eq_true, if_false]; rfl
  have hsz : s.data.toList.length = s.size := Array.length_toList
  have hlen : ((s.data.map fun b => Value.int .u8 b.toNat) ++ Array.replicate (cap - s.size) (Value.int .u8 0)).size = cap := by
    simp only [Array.size_append, Array.size_map, Array.size_replicate]
    have : s.data.size = s.size := rfl
    omega
  obtain ⟨ν, n1, n2, n3⟩ := h.drew.alloc hn (b := .cells (s.data.toList.map fun b => .int .u8 b.toNat) el false true)
    (o := .cells ((s.data.map fun b => Value.int .u8 b.toNat) ++ Array.replicate (cap - s.size) (Value.int .u8 0)) el (cap, cap + 1)) (s := cap)
    ⟨_, _, el, rfl, hlen, fun _ => ⟨rfl, .inr (Nat.le_refl _)⟩, fun e => by simp at e, by simp only [List.length_map]; omega, fun i v hv => by
      rw [List.getElem?_map] at hv
      cases hd : s.data.toList[i]? with
      | none => rw [hd] at hv; cases hv
      | some b =>
        rw [hd] at hv
        simp only [Option.map_some, Option.some.injEq] at hv
        subst hv
        refine ⟨.int .u8 b.toNat, ?_, .int _ _⟩
        have hd' : s.data[i]? = some b := by simpa using hd
        have hi : i < s.data.size := (Array.getElem?_eq_some_iff.1 hd').1
        rw [Array.getElem?_append_left (by simpa using hi), Array.getElem?_map, hd']
        rfl⟩
  refine ⟨ν, .slice (some ⟨w.heap.size, 0, none⟩) s.size cap, _, ?_, n1, n3, ?_⟩
  · have hnr : ∀ arr : Array Value, (newRow el arr).run P w.drew = .ok ⟨w.drew.heap.size, 0, none⟩ (w.drew.alloc (.cells arr el)) := fun arr => rfl
    have hms : ∀ (W : World) (b n : Nat), W.shape? b = some (el, n) → (markStringish ⟨b, 0, none⟩).run P W = .ok () (W.freeze ⟨b, n, none⟩ 1) := fun W b n hW => by
      simp only [markStringish, shape, Sem.run_bind, Sem.run, hW, Result.andThen_ok, freeze]
    have hsh : (w.drew.alloc (.cells ((s.data.map fun b => Value.int .u8 b.toNat) ++ Array.replicate (cap - s.size) (Value.int .u8 0)) el)).shape? w.drew.heap.size = some (el, cap) := by
      have hz : (w.drew.alloc (.cells ((s.data.map fun b => Value.int .u8 b.toNat) ++ Array.replicate (cap - s.size) (Value.int .u8 0)) el)).heap[w.drew.heap.size]? = some (.cells ((s.data.map fun b => Value.int .u8 b.toNat) ++ Array.replicate (cap - s.size) (Value.int .u8 0)) el) := Array.getElem?_push_size
      simp only [World.shape?, hz, hlen]
    unfold Conv.stringToBytes
    simp only [Sem.run_bind, hrun, Result.andThen_ok, hnr, hms _ _ _ hsh, Sem.run_pure, alloc_freeze]
    rfl
  · rw [hsz]
    exact .slx 0 s.size s.size cap 1 n2 (by omega) (by omega) (by omega) hcap (by omega)
theorem freeze_over (w : World) {g : Nat} {C : Array Value} {e : TypeId} {fr : Nat × Nat} (hg : w.heap[g]? = some (.cells C e fr)) (i : Nat) :
    w.freeze ⟨g, i, none⟩ 1 = World.over w g (.cells C e (if fr.1 == fr.2 then (i, i + 1) else (min fr.1 i, max fr.2 (i + 1)))) := by
  unfold World.freeze World.over
  rw [if_neg (by decide)]
  congr 1
  apply Array.ext_getElem?
  intro j
  rw [Array.getElem?_modify, Array.getElem?_setIfInBounds]
  have hlt : g < w.heap.size := (Array.getElem?_eq_some_iff.1 hg).1
  by_cases ej : g = j
  · subst ej
    have hg' : w.heap[g] = .cells C e fr := by rw [Array.getElem?_eq_getElem hlt] at hg; exact Option.some.inj hg
    simp [hlt, hg']
  · simp [ej]
/-- A block whose end is marked. -/
theorem Rel.stringish (h : Rel μ H w0 w) {k : Nat} {c : List Value} {e : TypeId} {x : Bool} (hk : H.t.get k = some (.cells c e x true)) {g s : Nat} (hm : μ k = some (g, s)) (o : Nat) :
    ∃ W, (markStringish ⟨g, o, none⟩).run P w = .ok () W ∧ Rel μ H w0 W := by
  obtain ⟨g', s', e1, l1, _⟩ := h.lies k _ hk
  rw [hm] at e1; cases e1
  obtain ⟨ob, ho, C, fr, e', rfl, q1, q2, q3, q4, q5⟩ := l1 rfl
  obtain ⟨he, q2⟩ := q2 rfl
  rw [he] at ho
  have hsh : w.shape? g = some (e, s) := by simp only [World.shape?, ho, q1]
  refine ⟨w.freeze ⟨g, s, none⟩ 1, ?_, ?_⟩
  · simp only [markStringish, shape, Sem.run_bind, Sem.run, hsh, Result.andThen_ok, freeze]
  · rw [freeze_over w ho]
    have hR := h.over hk rfl rfl hm (b' := .cells c e x true) (o := .cells C e (if fr.1 == fr.2 then (s, s + 1) else (min fr.1 s, max fr.2 (s + 1)))) ⟨C, _, e, rfl, q1, fun _ => ⟨rfl, .inr (by
      rcases q2 with hz | hz
      · rw [hz]; simp
      · split
        · exact Nat.le_refl _
        · exact Nat.le_min.2 ⟨hz, Nat.le_refl _⟩)⟩, q3, q4, q5⟩
    refine hR.congr (fun j => ?_) rfl
    rw [h.get_put (h.get_lt hk)]
    split
    · rename_i ej; rw [ej, hk]
    · rfl
theorem aconv_ok (hE : E.Ok P) (h : Rel μ H w0 w) {src dst : Nat} {v v' r : Value} {H' : AH} (hv : VR μ v v') (e : aconv P E H src dst v = some (r, H')) : GotV P (convert src dst v') μ w0 w r H' := by
  unfold aconv at e
  split at e
  · rename_i el s hs hd
    cases hv
    split at e
    · rename_i hel
      cases hb : (Nat.blt (H.next + 1) 1099511627776 && Nat.blt s.data.toList.length big) with
      | false => rw [hb] at e; cases e
      | true =>
        rw [hb, cond_true] at e
        cases e
        simp only [Bool.and_eq_true] at hb
        have b1 : H.next + 1 < 1099511627776 := Nat.le_of_ble_eq_true hb.1
        have b2 : s.data.toList.length < big := Nat.le_of_ble_eq_true hb.2
        obtain ⟨ν, v1, w1, r1, r2⟩ := stob_ok (P := P) h el s (by omega) b2
        refine ⟨ν, v1, w1, ?_, r2⟩
        simp only [convert, Sem.run_bind, run_und hE hs, run_und hE hd, run_und hE hel, Result.andThen_ok, r1]
    · cases e
  · rename_i el n c hs hd
    cases hv
    split at e
    · rename_i hel
      cases e
      refine .pure h (v' := .string .empty) ?_ (.string _)
      simp only [convert, Sem.run_bind, run_und hE hs, run_und hE hd, run_und hE hel, Result.andThen_ok, Conv.bytesToString, Sem.run_pure]
    · cases e
  · rename_i el k o n c hs hd
    split at e
    · rename_i c el2 x rw hel hk
      cases hb : Nat.ble (o + n) c.length with
      | false => rw [hb] at e; cases e
      | true =>
        rw [hb, cond_true] at e
        split at e
        · rename_i r hr
          cases e
          obtain ⟨ns, h1, rfl⟩ := abytes_ok _ r hr
          have key : ∀ g s cc, μ k = some (g, s) → GotV P (convert src dst (.slice (some ⟨g, o, none⟩) n cc)) μ w0 w (.string ⟨(ns.map fun n => UInt8.ofNat n.toNat).toArray⟩) H := by
            intro g s cc hm
            obtain ⟨arr, r1, r2⟩ := h.loads (P := P) hk hm n 0 o #[] #[] (by have := Nat.le_of_ble_eq_true hb; simpa using this) ⟨rfl, by simp⟩
            simp only [Nat.add_zero, Array.empty_append, h1] at r2
            have r3 := LR.ints ns arr.toList (by have := AR.toList r2; simpa using this)
            have r4 : arr = (ns.map (Value.int .u8)).toArray := by apply Array.ext'; simpa using r3
            refine .pure h (v' := .string ⟨(ns.map fun n => UInt8.ofNat n.toNat).toArray⟩) ?_ (.string _)
            rw [run_convert_bytes_string w src dst el _ _ _ (hE.und _ _ hs) (hE.und _ _ hel) (hE.und _ _ hd), run_bytesToString w _ n cc ns (by rw [← r4]; exact r1), foldl_push]
            simp
          cases hv with
          | sl _ _ _ hm hc => exact key _ _ _ hm
          | slx _ _ _ c' ez hm a1 a2 a3 a4 a5 => exact key _ _ _ hm
        · cases e
    · cases e
  · rename_i el0 el k o n c hs hd
    split at e
    · rename_i c0 el2 x hel hk
      cases hb : Nat.beq src dst with
      | false => rw [hb] at e; cases e
      | true =>
        rw [hb, cond_true] at e
        cases e
        have hsd := Nat.eq_of_beq_eq_true hb
        subst hsd
        rw [hs] at hd
        cases hd
        have key : ∀ g s cc, μ k = some (g, s) → VR μ (.slice (some ⟨k, o, none⟩) n c) (.slice (some ⟨g, o, none⟩) n cc) → GotV P (convert src src (.slice (some ⟨g, o, none⟩) n cc)) μ w0 w (.slice (some ⟨k, o, none⟩) n c) H := by
          intro g s cc hm hvr
          obtain ⟨W, hW, hR⟩ := h.stringish (P := P) hk hm o
          refine ⟨μ, _, W, ?_, .refl μ, hR, hvr⟩
          simp only [convert, Sem.run_bind, run_und hE hs, run_und hE hel, Result.andThen_ok, beq_self_eq_true, hW, Sem.run_pure]
        cases hv with
        | sl _ _ _ hm hc => exact key _ _ _ hm (.sl _ _ _ hm hc)
        | slx _ _ _ c' ez hm a1 a2 a3 a4 a5 => exact key _ _ _ hm (.slx _ _ _ _ _ hm a1 a2 a3 a4 a5)
    · cases e
  · cases hv
    split at e
    · rename_i j hj
      cases e
      exact .pure h (hE.tcv _ _ _ _ hj w) (.tokI _ _)
    · cases e
  · rename_i v _ _ _ _ _ _ _ _ _ _ _ _
    cases hs : isScalar v with
    | false => rw [hs] at e; cases e
    | true =>
      rw [hs, cond_true] at e
      split at e
      · rename_i r' hr
        cases e
        rw [hv.scalar hs]
        exact asc_ok h hr
      · cases e
  · cases e
theorem Rel.shape (h : Rel μ H w0 w) {k : Nat} {c : List Value} {el : TypeId} {x rw : Bool} (hk : H.t.get k = some (.cells c el x rw)) {g s : Nat} (hm : μ k = some (g, s)) :
    ∃ e', w.shape? g = some (e', s) ∧ c.length ≤ s ∧ (rw = true → e' = el) ∧ (x = true → s = c.length) := by
  obtain ⟨g', s', e1, l1, _⟩ := h.lies k _ hk
  rw [hm] at e1; cases e1
  obtain ⟨ob, ho, C, fr, e', rfl, p1, p2, p3, p4, p5⟩ := l1 rfl
  exact ⟨e', by simp [World.shape?, ho, p1], p4, fun hr => (p2 hr).1, p3⟩
/-- .. pointers to unsafe ones, and back. -/
def aconvP (P : Program) (E : Env) (H : AH) (src dst : Nat) (v : Value) : Option (Value × AH) := match E.und src, E.und dst, v with
  | some (.pointer t), some .unsafePointer, .pointer (some ⟨k, o, none⟩) => match H.t.get k, E.info t with
    | some (.cells c _ _ _), some i => bif !(Nat.beq i.size 0) && Nat.blt o c.length then some (.pointer (some ⟨k, o, none⟩), H) else none
    | _, _ => none
  | some .unsafePointer, some (.pointer u), .pointer (some ⟨k, o, none⟩) => match H.t.get k, E.info u with
    | some (.cells c el true true), some _ => bif liesAt P P.depth el (c.length / P.cellsOf el) o u 1 then some (.pointer (some ⟨k, o, none⟩), H) else none
    | _, _ => none
  | _, _, _ => aconv P E H src dst v
theorem aconvP_ok (hE : E.Ok P) (h : Rel μ H w0 w) {src dst : Nat} {v v' r : Value} {H' : AH} (hv : VR μ v v') (e : aconvP P E H src dst v = some (r, H')) : GotV P (convert src dst v') μ w0 w r H' := by
  unfold aconvP at e
  split at e
  · rename_i t k o hs hd
    split at e
    · rename_i c el x rw i hk hi
      cases hb : (!(Nat.beq i.size 0) && Nat.blt o c.length) with
      | false => rw [hb] at e; cases e
      | true =>
        rw [hb, cond_true] at e
        cases e
        simp only [Bool.and_eq_true] at hb
        have hn : i.size ≠ 0 := fun e' => by rw [e'] at hb; exact absurd hb.1 (by decide)
        have ho : o < c.length := Nat.le_of_ble_eq_true hb.2
        cases hv with
        | @ptr _ g s _ hm =>
          obtain ⟨e', q1, q2, _, _⟩ := h.shape hk hm
          exact .pure h (Lib.run_to_unsafe w ⟨g, o, none⟩ (hE.und _ _ hs) (hE.und _ _ hd) (hE.info _ _ hi) hn q1 (Nat.lt_of_lt_of_le ho q2)) (.ptr o hm)
    · cases e
  · rename_i u k o hs hd
    split at e
    · rename_i c el i hk hi
      cases hb : liesAt P P.depth el (c.length / P.cellsOf el) o u 1 with
      | false => rw [hb] at e; cases e
      | true =>
        rw [hb, cond_true] at e; cases e
        cases hv with
        | @ptr _ g s _ hm =>
          obtain ⟨e', q1, q2, q3, q4⟩ := h.shape hk hm
          have e1 := q3 rfl
          have e2 := q4 rfl
          subst e1
          subst e2
          exact .pure h (Lib.run_from_unsafe w ⟨g, o, none⟩ (hE.und _ _ hs) (hE.und _ _ hd) (hE.info _ _ hi) q1 hb) (.ptr o hm)
    · cases e
  · exact aconv_ok hE h hv e
/-- Where a slice's things lie. -/
def asliceData : Value → Option Value
  | .slice none _ _ => some (.pointer none)
  | .slice (some a) n c => bif Nat.blt 0 n && Nat.blt 0 c then some (.pointer (some a)) else none
  | _ => none
theorem asliceData_ok (h : Rel μ H w0 w) {ts : Array TypeId} {ty : TypeId} {v v' r : Value} (hv : VR μ v v') (e : asliceData v = some r) : GotV P (Builtin.unsafeSliceData_ ts ty #[v']) μ w0 w r H := by
  unfold asliceData at e
  split at e
  · cases hv; cases e
    exact .pure h (Lib.run_unsafeSliceData_nil w ts ty _ _) .pnil
  · rename_i a n c
    cases hb : (Nat.blt 0 n && Nat.blt 0 c) with
    | false => rw [hb] at e; cases e
    | true =>
      rw [hb, cond_true] at e; cases e
      simp only [Bool.and_eq_true] at hb
      have h1 : 0 < n := Nat.le_of_ble_eq_true hb.1
      have h2 : 0 < c := Nat.le_of_ble_eq_true hb.2
      cases hv with
      | sl o _ _ hm hc => exact .pure h (Lib.run_unsafeSliceData_row w ts ty _ n c (by omega)) (.ptr o hm)
      | slx o _ c0 c' ez hm a1 a2 a3 a4 a5 => exact .pure h (Lib.run_unsafeSliceData_row w ts ty _ n c' (by omega)) (.ptr o hm)
  · cases e
/-- The text that lies at the head of a row of bytes; nobody looks at the row any more. -/
def astr : List Value → Option (List UInt8)
  | [] => some []
  | .int .u8 n :: l => if n = ((UInt8.ofNat n.toNat).toNat : Int) then (match astr l with
    | some r => some (UInt8.ofNat n.toNat :: r)
    | none => none) else none
  | _ :: _ => none
theorem astr_ok : ∀ (l : List Value) (r : List UInt8), astr l = some r → l = r.map fun x => .int .u8 (x.toNat : Int)
  | [], r, e => by cases e; rfl
  | v :: l, r, e => by
    unfold astr at e
    split at e
    · rename_i h; cases h
    · rename_i n l' h
      cases h
      split at e
      · rename_i hn
        split at e
        · rename_i r' hr
          cases e
          rw [List.map_cons, ← astr_ok _ r' hr, ← hn]
        · cases e
      · cases e
    · cases e
def aunsafeStr (E : Env) (H : AH) (pt : Nat) : Value → Value → Option (Value × AH)
  | .pointer q, .int .i64 n => if n = 0 then some (.string .empty, H) else match q with
    | some ⟨k, 0, none⟩ => match E.und pt, H.t.get k with
      | some (.pointer e), some (.cells c el x true) => match E.info e with
        | some i => bif Nat.beq e el && Nat.beq i.size 1 && decide (0 < n) && decide (n ≤ 1099511627776) && Nat.ble n.toNat c.length then (match astr (c.take n.toNat) with
          | some l => some (.string ⟨l.toArray⟩, H.put k .dead)
          | none => none) else none
        | none => none
      | _, _ => none
    | _ => none
  | _, _ => none
theorem freeze_overN (w : World) {g : Nat} {C : Array Value} {e : TypeId} {fr : Nat × Nat} (hg : w.heap[g]? = some (.cells C e fr)) (i n : Nat) (hn : n ≠ 0) :
    ∃ fr', w.freeze ⟨g, i, none⟩ n = World.over w g (.cells C e fr') := by
  refine ⟨if fr.1 == fr.2 then (i, i + n) else (min fr.1 i, max fr.2 (i + n)), ?_⟩
  unfold World.freeze World.over
  rw [if_neg hn]
  congr 1
  apply Array.ext_getElem?
  intro j
  rw [Array.getElem?_modify, Array.getElem?_setIfInBounds]
  have hlt : g < w.heap.size := (Array.getElem?_eq_some_iff.1 hg).1
  by_cases ej : g = j
  · subst ej
    have hg' : w.heap[g] = .cells C e fr := by rw [Array.getElem?_eq_getElem hlt] at hg; exact Option.some.inj hg
    simp [hlt, hg']
  · simp [ej]
theorem aunsafeStr_ok (hE : E.Ok P) (h : Rel μ H w0 w) {pt it ty : Nat} {x x' y y' r : Value} {H' : AH} (hx : VR μ x x') (hy : VR μ y y') (e : aunsafeStr E H pt x y = some (r, H')) : GotV P (Builtin.unsafeString_ #[pt, it] ty #[x', y']) μ w0 w r H' := by
  unfold aunsafeStr at e
  split at e
  · rename_i q n
    split at e
    · rename_i hn
      subst hn
      cases e
      cases hy
      cases hx with
      | pnil => exact .pure h (Lib.run_unsafeString_none w pt it ty _) (.string _)
      | ptr o hm => exact .pure h (Lib.run_unsafeString_none w pt it ty _) (.string _)
    · rename_i hn
      split at e
      · rename_i k
        split at e
        · rename_i el c el2 xx hu hk
          split at e
          · rename_i i hi
            cases hb : (Nat.beq el el2 && Nat.beq i.size 1 && decide (0 < n) && decide (n ≤ 1099511627776) && Nat.ble n.toNat c.length) with
            | false => rw [hb] at e; cases e
            | true =>
              rw [hb, cond_true] at e
              simp only [Bool.and_eq_true, decide_eq_true_eq] at hb
              obtain ⟨⟨⟨⟨b1, b2⟩, b3⟩, b4⟩, b5⟩ := hb
              have b1 := Nat.eq_of_beq_eq_true b1
              have b2 := Nat.eq_of_beq_eq_true b2
              have b5 := Nat.le_of_ble_eq_true b5
              subst b1
              split at e
              · rename_i l hl
                cases e
                cases hy
                cases hx with
                | @ptr _ g s _ hm =>
                  have hls := astr_ok _ _ hl
                  have hlen : l.length = n.toNat := by
                    have := congrArg List.length hls
                    simp at this; omega
                  obtain ⟨g', s', e1, l1, _⟩ := h.lies k _ hk
                  rw [hm] at e1; cases e1
                  obtain ⟨ob, ho, C, fr, e', rfl, p1, p2, p3, p4, p5⟩ := l1 rfl
                  obtain ⟨he', _⟩ := p2 rfl
                  subst he'
                  have hsz : P.cellsOf e' = 1 := by
                    have := congrArg (fun x => ((x.map TypeInfo.size).getD 0)) (hE.info _ _ hi)
                    exact (show P.cellsOf e' = i.size from this).trans b2
                  have hcell : ∀ (j : Nat) (u : UInt8), l[j]? = some u → w.cell? ((⟨g, 0, none⟩ : Addr).add j) = some (.int .u8 (u.toNat : Int)) := fun j u hj => by
                    have hc : (c.take n.toNat)[j]? = some (.int .u8 (u.toNat : Int)) := by rw [hls, List.getElem?_map, hj]; rfl
                    rw [List.getElem?_take] at hc
                    split at hc
                    · obtain ⟨v', k1, k2⟩ := p5 j _ hc
                      cases k2
                      rw [addr_add, Nat.zero_add]
                      simp [World.cell?, ho, k1]
                    · cases hc
                  have hrun := Lib.run_unsafeString_row (P := P) w pt it ty e' (hE.und _ _ hu) hsz g s (by simp [World.shape?, ho, p1]) l (by intro e0; subst e0; simp at hlen; omega) (by omega) (by omega) hcell
                  obtain ⟨fr', hfr⟩ := freeze_overN w ho 0 l.length (by omega)
                  rw [hfr] at hrun
                  have hnn : (n : Int) = (l.length : Int) := by omega
                  rw [hnn]
                  exact ⟨μ, _, _, hrun, .refl μ, h.bury hk rfl hm _, .string _⟩
              · cases e
          · cases e
        · cases e
      · cases e
  · cases e
/-- Lengths. -/
def alen (E : Env) (H : AH) (t : Nat) (v : Value) : Option Value := match E.und t, v with
  | some (.slice _), .slice _ n _ => some (.int .i64 n)
  | some .string, .string s => some (.int .i64 s.size)
  | some .string, .chan (some 0) => some (.chan (some 1))
  | some .string, .complex q 1 k => (match E.tln k with
    | some j => some (.complex q 0 j)
    | none => some (.chan (some 1)))
  | some (.array n _), _ => some (.int .i64 n)
  | some (.map _ _), .map none => some (.int .i64 0)
  | some (.map _ _), .map (some k) => match H.t.get k with
    | some (.map es _) => some (.int .i64 es.length)
    | _ => none
  | _, _ => none
theorem Rel.map {μ : Mp} {H : AH} {w0 : Base} {w : World} (h : Rel μ H w0 w) {k : Nat} {es : List (Value × Value × Nat)} {n : Nat} (hk : H.t.get k = some (.map es n)) {g s : Nat} (hm : μ k = some (g, s)) :
    ∃ F : Array MapEntry, w.heap[g]? = some (.map F n) ∧ F.size = es.length ∧ ∀ (i : Nat) (e : Value × Value × Nat) (e' : MapEntry), es[i]? = some e → F[i]? = some e' → VR μ e.1 e'.key ∧ VR μ e.2.1 e'.val ∧ e'.born = e.2.2 := by
  obtain ⟨g', s', e1, l1, _⟩ := h.lies k _ hk
  rw [hm] at e1; cases e1
  obtain ⟨o, ho, F, rfl, q1, q2⟩ := l1 rfl
  exact ⟨F, ho, q1, q2⟩
theorem run_getMap {g : Nat} {F : Array MapEntry} {n : Nat} (h : w.heap[g]? = some (.map F n)) : (getObj g).run P w = .ok (.map F n) w := by
  simp only [getObj, Sem.run, h]
theorem alen_ok (hE : E.Ok P) (h : Rel μ H w0 w) {t ty : Nat} {ts : Array TypeId} (ht : ts[0]? = some t) {v v' r : Value} {as : Array Value} (ha : as[0]? = some v') (hv : VR μ v v') (e : alen E H t v = some r) : GotV P (Builtin.len_ ts ty as) μ w0 w r H := by
  have hd : Builtin.len_ ts ty as = Builtin.len_ #[t] ty #[v'] := by
    unfold Builtin.len_
    simp [ht, ha]
  rw [hd]
  unfold alen at e
  split at e
  · rename_i el b n c hu
    cases e
    refine .pure h (v' := .int .i64 n) ?_ (.int _ _)
    cases hv <;> simp [Builtin.len_, run_und hE hu, goInt]
  · rename_i s hu
    cases e; cases hv
    refine .pure h (v' := .int .i64 s.size) ?_ (.int _ _)
    simp [Builtin.len_, run_und hE hu, goInt]
  · rename_i hu
    cases e; cases hv
    rename_i s
    refine .pure h (v' := .int .i64 s.size) ?_ (.unkN _)
    simp [Builtin.len_, run_und hE hu, goInt]
  · rename_i hu
    cases hv
    rename_i k
    split at e
    · rename_i j hj
      cases e
      obtain ⟨k1, k2⟩ := hE.tln _ _ hj
      refine .pure h (v' := .int (Toks.kd j) (Toks.i j)) ?_ (.tokI _ _)
      rw [k1, k2]
      simp [Builtin.len_, run_und hE hu, goInt]
    · cases e
      refine .pure h (v' := .int .i64 (Toks.s k).size) ?_ (.unkN _)
      simp [Builtin.len_, run_und hE hu, goInt]
  · rename_i n el hu
    cases e
    refine .pure h (v' := .int .i64 n) ?_ (.int _ _)
    simp [Builtin.len_, run_und hE hu, goInt]
  · rename_i ke el hu
    cases e; cases hv
    refine .pure h (v' := .int .i64 0) ?_ (.int _ _)
    simp [Builtin.len_, run_und hE hu, goInt]
  · rename_i ke el k hu
    split at e
    · rename_i es n hk
      cases e
      cases hv with
      | map hm =>
        obtain ⟨F, hF, hs, _⟩ := h.map hk hm
        refine .pure h (v' := .int .i64 es.length) ?_ (.int _ _)
        simp [Builtin.len_, run_und hE hu, goInt, run_getMap hF, hs]
    · cases e
  · cases e
/-- A new map. -/
def amakeMap (H : AH) : Option (Value × AH) := bif Nat.blt (H.next + 1) 1099511627776 then some (.map (some H.next), H.alloc (.map [] 0)) else none
theorem amakeMap_ok (hE : E.Ok P) (h : Rel μ H w0 w) {t : Nat} {rv : Option Value} (hr : rv = none ∨ ∃ k n d, rv = some (.int k n) ∧ E.und t = some d ∧ ∃ a b, d = .map a b) {v : Value} {H' : AH} (e : amakeMap H = some (v, H')) : GotV P (Instr.makeMap t rv) μ w0 w v H' := by
  unfold amakeMap at e
  cases hb : Nat.blt (H.next + 1) 1099511627776 with
  | false => rw [hb] at e; cases e
  | true =>
    rw [hb] at e; cases e
    have b1 : H.next + 1 < 1099511627776 := Nat.le_of_ble_eq_true hb
    obtain ⟨ν, n1, n2, n3⟩ := h.alloc (by omega) (b := .map [] 0) (o := .map #[] 0) (s := 0) ⟨#[], rfl, rfl, by simp⟩
    refine ⟨ν, .map (some w.heap.size), w.alloc (.map #[] 0), ?_, n1, n3, .map n2⟩
    rcases hr with rfl | ⟨k, n, d, rfl, hu, a, b, rfl⟩
    · simp only [Instr.makeMap, newObj, Sem.run_bind, Sem.run_pure, Sem.run, Result.andThen_ok]; rfl
    · simp only [Instr.makeMap, newObj, Sem.run_bind, Sem.run_pure, Sem.run, Result.andThen_ok, run_und hE hu, asInt, asIntOf]; rfl
end
end AM
end Go.Proofs.YtdmbppgogdkpdaaGreatDoor
namespace Go.Proofs.YtdmbppgogdkpdaaGreatDoor
namespace AM
open Go.RowKit
variable [Toks]

theorem growBy_le (n : Nat) : ∀ (r c : Nat), Builtin.growBy n r c ≤ max c (2 * n + 192)
  | 0, c => by simp only [Builtin.growBy]; omega
  | r + 1, c => by
    simp only [Builtin.growBy]
    split
    · omega
    · have := growBy_le n r (c + (c + 768) / 4); omega
theorem nextslicecap_le (n c : Nat) (h : c < n) : Builtin.nextslicecap n c ≤ 2 * n + 512 := by
  unfold Builtin.nextslicecap
  split
  · omega
  · split
    · omega
    · have := growBy_le n 4 c; omega
section
variable {P : Program} {E : Env} {Q : Eqs} {μ : Mp} {H : AH} {w0 : Base} {w : World}
/-- What is appended. -/
def acells (H : AH) (size : Nat) : Value → Option (Nat × List Value)
  | .slice none n _ => bif Nat.beq n 0 then some (0, []) else none
  | .slice (some ⟨k, o, none⟩) n _ => match H.t.get k with
    | some (.cells c _ _ _) => bif Nat.ble (o + n * size) c.length then some (n, (c.drop o).take (n * size)) else none
    | _ => none
  | .string s => bif Nat.beq size 1 then some (s.size, s.data.toList.map fun b => .int .u8 b.toNat) else none
  | _ => none
theorem Rel.row (h : Rel μ H w0 w) {k : Nat} {c : List Value} {e : TypeId} {x rw : Bool} (hk : H.t.get k = some (.cells c e x rw)) {g s : Nat} (hm : μ k = some (g, s)) (o m : Nat) (hl : o + m ≤ c.length) :
    ∃ l' : List Value, LR μ ((c.drop o).take m) l' ∧ l'.length = m ∧ ∀ j u, l'[j]? = some u → w.cell? ⟨g, o + j, none⟩ = some u := by
  obtain ⟨g', s', e1, l1, _⟩ := h.lies k _ hk
  rw [hm] at e1; cases e1
  obtain ⟨ob, ho, C, fr, e', rfl, q1, _, _, q4, hc⟩ := l1 rfl
  have q1' : C.toList.length = s := by rw [Array.length_toList]; exact q1
  refine ⟨(C.toList.drop o).take m, ⟨by simp; omega, fun i v v' h1 h2 => ?_⟩, by simp; omega, fun j u hu => ?_⟩
  · rw [List.getElem?_take] at h1 h2
    split at h1
    · rename_i hi
      rw [if_pos hi] at h2
      rw [List.getElem?_drop] at h1 h2
      obtain ⟨u, hu, hv⟩ := hc _ v h1
      rw [Array.getElem?_toList] at h2
      rw [hu] at h2; cases h2; exact hv
    · cases h1
  · rw [List.getElem?_take] at hu
    split at hu
    · rw [List.getElem?_drop, Array.getElem?_toList] at hu
      simp [World.cell?, ho, hu]
    · cases hu
theorem acells_ok (hE : E.Ok P) (h : Rel μ H w0 w) {size n tx : Nat} {x x' : Value} {l : List Value} {d : TypeDesc} (hu : E.und tx = some d) (hd : (∃ e', d = .slice e') ∨ d = .string) (hds : ∀ s, x = .string s → d = .string) (hdl : ∀ a n c, x = .slice a n c → ∃ e', d = .slice e')
    (hx : VR μ x x') (e : acells H size x = some (n, l)) (h1 : l.all (·.oneCell') = true) :
    l.length = n * size ∧ ∃ l', LR μ l l' ∧ Src P size tx x' n l' w := by
  have hu' := hE.und _ _ hu
  unfold acells at e
  split at e
  · rename_i n' c
    cases hb : Nat.beq n' 0 with
    | false => rw [hb] at e; cases e
    | true =>
      rw [hb] at e; cases e
      have := Nat.eq_of_beq_eq_true hb
      subst this
      cases hx
      obtain ⟨e', rfl⟩ := hdl _ _ _ rfl
      exact ⟨by simp, [], .nil μ, Src.ofNil w hu' c⟩
  · rename_i k o n' c
    obtain ⟨e', rfl⟩ := hdl _ _ _ rfl
    split at e
    · rename_i c' el x rw hk
      cases hb : Nat.ble (o + n' * size) c'.length with
      | false => rw [hb] at e; cases e
      | true =>
        rw [hb, cond_true] at e; cases e
        have hb := Nat.le_of_ble_eq_true hb
        have hl : ((c'.drop o).take (n * size)).length = n * size := by simp; omega
        have key : ∀ g s, μ k = some (g, s) → ∀ cc, ∃ l', LR μ ((c'.drop o).take (n * size)) l' ∧ Src P size tx (.slice (some ⟨g, o, none⟩) n cc) n l' w := by
          intro g s hm cc
          obtain ⟨l', r1, r2, r3⟩ := h.row hk hm o (n * size) hb
          refine ⟨l', r1, Src.ofSlice w hu' _ n cc l' r2 (fun j u hj => by rw [addr_add]; exact r3 j u hj) (fun u hm => ?_)⟩
          obtain ⟨i, hi⟩ := List.mem_iff_getElem?.1 hm
          have hi' : i < ((c'.drop o).take (n * size)).length := by rw [r1.1]; exact (List.getElem?_eq_some_iff.1 hi).1
          have := r1.2 i _ u (List.getElem?_eq_getElem hi') hi
          rw [this.oneCell]
          exact List.all_eq_true.1 h1 _ (List.getElem_mem hi')
        cases hx with
        | sl _ _ _ hm hc => exact ⟨hl, key _ _ hm _⟩
        | slx _ _ _ c2 ez hm a1 a2 a3 a4 a5 => exact ⟨hl, key _ _ hm _⟩
    · cases e
  · rename_i s
    cases hb : Nat.beq size 1 with
    | false => rw [hb] at e; cases e
    | true =>
      rw [hb, cond_true] at e
      simp only [Option.some.injEq, Prod.mk.injEq] at e
      obtain ⟨rfl, rfl⟩ := e
      have := Nat.eq_of_beq_eq_true hb
      subst this
      cases hx
      have hds' := hds s rfl
      subst hds'
      refine ⟨by rw [← byteCells, byteCells_length, Nat.mul_one], byteCells s, ?_, Src.ofString w hu' s⟩
      refine ⟨rfl, fun i v v' h1 h2 => ?_⟩
      have h2' : (s.data.toList.map fun b => Value.int .u8 b.toNat)[i]? = some v' := h2
      rw [h1] at h2'; cases h2'
      rw [List.getElem?_map] at h1
      cases hd : s.data.toList[i]? with
      | none => rw [hd] at h1; cases h1
      | some b => rw [hd] at h1; cases h1; exact .int _ _
  · cases e
/-- A block is handed on under a new number; nobody looks at the elder one any more. -/
theorem Rel.hand (h : Rel μ H w0 w) (hn : H.next + 1 < 2 ^ 40) {k : Nat} {b b' : Blk} (hk : H.t.get k = some b) (hown : b.own = true) {g s : Nat} (hm : μ k = some (g, s)) {o : Obj} (ho : BlkR μ s b' o) (hbo : b'.own = true := by rfl) :
    ∃ ν : Mp, μ.le ν ∧ ν H.next = some (g, s) ∧ Rel ν ((H.put k .dead).alloc b') w0 (World.over w g o) := by
  have hlt := h.get_lt hk
  obtain ⟨g', s', e1, l1, l2⟩ := h.lies k b hk
  rw [hm] at e1; cases e1
  obtain ⟨o0, ho0, _⟩ := l1 (Blk.live_own hown)
  have hg : g < w.heap.size := (Array.getElem?_eq_some_iff.1 ho0).1
  have hg0 := l2 hown
  let ν : Mp := ⟨fun j => if j = H.next then some (g, s) else μ j, H.next + 1, fun k hk => by
    show (if k = H.next then _ else _) = _
    rw [if_neg (by omega)]; exact μ.wf k (by rw [h.num]; omega), fun k hk => by
    show ∃ s', (if k = H.next then _ else _) = _
    rw [if_neg (fun e => μ.glob_lt (μ.wf k (by rw [h.num, e]; exact Nat.le_refl _)) hk)]; exact μ.gl k hk⟩
  have hνd : ∀ k, ν k = if k = H.next then some (g, s) else μ k := fun _ => rfl
  have hle : μ.le ν := ⟨by show μ.N ≤ H.next + 1; rw [h.num]; omega, fun k hk => by
    rw [hνd, if_neg (by rw [h.num] at hk; omega)]⟩
  have hget : ∀ j, ((H.put k .dead).alloc b').t.get j = if j = H.next then some b' else if j = k then some .dead else H.t.get j := fun j => by
    rw [get_alloc (H := H.put k .dead) (by simpa [AH.put] using hn)]
    rw [h.get_put hlt]
    rfl
  refine ⟨ν, hle, by rw [hνd, if_pos rfl], ?_⟩
  refine ⟨h.os, h.tape, h.output, by simpa [World.over] using h.size, fun j hj => ?_, by simpa [AH.alloc, AH.put] using hn, rfl, ?_, ?_, ?_⟩
  · rw [World.over_get _ _ hg, if_neg (fun (e : j = g) => hg0 (by rw [← e]; exact hj))]; exact h.keep j hj
  · intro j c hj
    rw [hget] at hj
    by_cases e : j = H.next
    · rw [if_pos e] at hj; cases hj
      exact ⟨g, s, by rw [hνd, if_pos e], fun _ => ⟨o, by rw [World.over_get _ _ hg, if_pos rfl], ho.mono hle⟩, fun _ => hg0⟩
    · rw [if_neg e] at hj
      by_cases e2 : j = k
      · rw [if_pos e2] at hj; cases hj
        exact ⟨g, s, by rw [hνd, if_neg e, e2]; exact hm, fun hl => by simp [Blk.live] at hl, fun hl => by simp [Blk.own] at hl⟩
      · rw [if_neg e2] at hj
        obtain ⟨g1, s1, m1, k1, k2⟩ := h.lies j c hj
        refine ⟨g1, s1, by rw [hνd, if_neg e]; exact m1, fun hl => ?_, k2⟩
        obtain ⟨o1, ho1, r1⟩ := k1 hl
        have := h.apart k j b c hk hj (fun e' => e2 e'.symm) hown hl g s g1 s1 hm m1
        exact ⟨o1, by rw [World.over_get _ _ hg, if_neg (fun e' => this e'.symm)]; exact ho1, r1.mono hle⟩
  · intro i j b1 c1 hi hj hne ho1 hl1 g1 s1 g2 s2 m1 m2
    rw [hget] at hi hj
    rw [hνd] at m1 m2
    by_cases ei : i = H.next
    · rw [if_pos ei] at hi m1; cases hi; cases m1
      have ej : ¬ j = H.next := fun e => hne (ei.trans e.symm)
      rw [if_neg ej] at hj m2
      by_cases e2 : j = k
      · rw [if_pos e2] at hj; cases hj; simp [Blk.live] at hl1
      · rw [if_neg e2] at hj
        exact h.apart k j b c1 hk hj (fun e' => e2 e'.symm) hown hl1 g s g2 s2 hm m2
    · rw [if_neg ei] at hi m1
      by_cases e2 : i = k
      · rw [if_pos e2] at hi; cases hi; simp [Blk.own] at ho1
      · rw [if_neg e2] at hi
        by_cases ej : j = H.next
        · rw [if_pos ej] at hj m2; cases m2
          exact h.apart i k b1 b hi hk e2 ho1 (Blk.live_own hown) g1 s1 g s m1 hm
        · rw [if_neg ej] at hj m2
          by_cases e3 : j = k
          · rw [if_pos e3] at hj; cases hj; simp [Blk.live] at hl1
          · rw [if_neg e3] at hj
            exact h.apart i j b1 c1 hi hj hne ho1 hl1 g1 s1 g2 s2 m1 m2
  · intro j c hj hl ho g1 s1 m1
    rw [hget] at hj
    rw [hνd] at m1
    by_cases e : j = H.next
    · rw [if_pos e] at hj; cases hj; rw [hbo] at ho; cases ho
    · rw [if_neg e] at hj m1
      by_cases e2 : j = k
      · rw [if_pos e2] at hj; cases hj; simp [Blk.live] at hl
      · rw [if_neg e2] at hj; exact h.ro j c hj hl ho g1 s1 m1
end
end AM
end Go.Proofs.YtdmbppgogdkpdaaGreatDoor
namespace Go.Proofs.YtdmbppgogdkpdaaGreatDoor
namespace AM
open Go.RowKit
variable [Toks]

theorem getElem?_setRange : ∀ (vs c : List Value) (o i : Nat), o + vs.length ≤ c.length → (setRange c o vs)[i]? = if o ≤ i ∧ i < o + vs.length then vs[i - o]? else c[i]?
  | [], c, o, i, _ => by simp [setRange]; omega
  | v :: vs, c, o, i, h => by
    simp only [List.length_cons] at h
    rw [setRange, getElem?_setRange vs (c.set o v) (o + 1) i (by simp; omega)]
    by_cases e : i = o
    · subst e
      rw [if_neg (by omega), if_pos (by simp), List.getElem?_set_self (by omega)]
      simp
    · by_cases e2 : o + 1 ≤ i ∧ i < o + 1 + vs.length
      · rw [if_pos e2, if_pos (by simp; omega)]
        obtain ⟨m, rfl⟩ : ∃ m, i = o + 1 + m := ⟨i - (o + 1), by omega⟩
        rw [show o + 1 + m - (o + 1) = m by omega, show o + 1 + m - o = m + 1 by omega]
        simp
      · rw [if_neg e2, if_neg (by simp; omega), List.getElem?_set_ne (fun e3 => e e3.symm)]
theorem over_over (w : World) (g : Nat) (a b : Obj) : World.over (World.over w g a) g b = World.over w g b := by
  unfold World.over
  congr 1
  apply Array.ext_getElem?
  intro j
  rw [Array.getElem?_setIfInBounds, Array.getElem?_setIfInBounds, Array.getElem?_setIfInBounds]
  by_cases e : g = j
  · simp [e]
  · simp [e]
theorem over_self (w : World) {g : Nat} {o : Obj} (h : w.heap[g]? = some o) : World.over w g o = w := by
  unfold World.over
  have : w.heap.setIfInBounds g o = w.heap := by
    apply Array.ext_getElem?
    intro j
    rw [Array.getElem?_setIfInBounds]
    by_cases e : g = j
    · subst e
      have hlt := (Array.getElem?_eq_some_iff.1 h).1
      simp [hlt, h]
      have := (Array.getElem?_eq_some_iff.1 h).2
      exact this.symm
    · simp [e]
  rw [this]
theorem setCells_over (g : Nat) (e : TypeId) (fr : Nat × Nat) : ∀ (vs : List Value) (o : Nat) (w : World) (C : Array Value), w.heap[g]? = some (.cells C e fr) → w.setCells g o vs = World.over w g (.cells (setRange C.toList o vs).toArray e fr)
  | [], o, w, C, h => by
    rw [setRange]
    exact (over_self w (by rw [h])).symm
  | v :: vs, o, w, C, h => by
    have hlt := (Array.getElem?_eq_some_iff.1 h).1
    rw [World.setCells, setCell_over w h, setCells_over g e fr vs (o + 1) _ (C.setIfInBounds o v) (by rw [World.over_get _ _ hlt, if_pos rfl]), over_over]
    simp [setRange]
section
variable {P : Program} {E : Env} {Q : Eqs} {μ : Mp} {H : AH} {w0 : Base} {w : World}
/-- A slice of a new row that may have room for more. -/
def afresh (H : AH) (el size need : Nat) (c : List Value) : Option (Value × AH) :=
  bif Nat.blt (H.next + 1) 1099511627776 then some (.slice (some ⟨H.next, 0, none⟩) need (size * big + need), H.alloc (.cells c el false true)) else none
def agrow (H : AH) (el size : Nat) (base : Option Addr) (sLen cap n : Nat) (news : List Value) : Option (Value × AH) := match base with
  | none => bif Nat.beq sLen 0 then (bif Nat.beq n 0 then some (.slice none 0 cap, H) else bif Nat.blt cap n then afresh H el size n news else none) else none
  | some ⟨k, o, none⟩ => match H.t.get k with
    | some (.cells c el2 ex rw) =>
      bif Nat.ble (sLen + n) (bif Nat.blt cap big then cap else cap % big) then
        (bif rw && Nat.ble (o + (sLen + n) * size) c.length then some (.slice (some ⟨k, o, none⟩) (sLen + n) cap, H.put k (.cells (setRange c (o + sLen * size) news) el2 ex rw)) else none)
      else bif Nat.ble (o + sLen * size) c.length && ((c.drop o).take (sLen * size)).all (·.oneCell') then
        (bif Nat.blt cap big then afresh H el size (sLen + n) ((c.drop o).take (sLen * size) ++ news)
        else bif Nat.beq (cap / big) size && Nat.beq o 0 && rw && Nat.beq el2 el then afresh (H.put k .dead) el size (sLen + n) ((c.drop o).take (sLen * size) ++ news)
        else none)
      else none
    | _ => none
  | _ => none
def kindFits : TypeDesc → Value → Bool
  | .slice _, .slice _ _ _ => true
  | .string, .string _ => true
  | _, _ => false
def isZerosK : TypeDesc → Bool
  | .int _ => true
  | _ => false
def azeros (H : AH) (el : Nat) (i : TypeInfo) (z : Value) : Value → Value → Option (Value × AH)
  | .slice base sLen cap, .int _ m => bif Nat.beq z.cells.size i.size && Nat.blt 0 i.size && Nat.ble i.bytes 1048576 && Nat.ble (sLen + m.toNat) 1048576 && decide (0 ≤ m) && (arep z.cells (m.toNat * i.size)).all (cval 6) && (arep z.cells (m.toNat * i.size)).all (·.oneCell') then
      agrow H el i.size base sLen cap m.toNat (arep z.cells (m.toNat * i.size)) else none
  | _, _ => none
def aappend (E : Env) (H : AH) (t tx : Nat) (s x : Value) : Option (Value × AH) := match E.und t, E.und tx with
  | some (.slice el), some dx => match E.info el with
    | some i => match i.zero with
      | some z => bif isZerosK dx then azeros H el i z s x else bif kindFits dx x && Nat.beq z.cells.size i.size && Nat.blt 0 i.size && Nat.ble i.bytes 1048576 then (match acells H i.size x, s with
        | some (n, news), .slice base sLen cap => bif Nat.ble (sLen + n) 1048576 && news.all (·.oneCell') then agrow H el i.size base sLen cap n news else none
        | _, _ => none) else none
      | none => none
    | none => none
  | _, _ => none
theorem grown_ge (w : World) (need old : Nat) (e : TypeId) : need ≤ grownCap w need old e := by
  unfold grownCap
  simp only [Question.cut]
  omega
theorem size_zeroCells (z : Array Value) (n : Nat) : (Builtin.zeroCells z n).size = n * z.size := by
  simp [Builtin.zeroCells]
theorem Rel.len_le (h : Rel μ H w0 w) {k : Nat} {c : List Value} {e : TypeId} {x rw : Bool} (hk : H.t.get k = some (.cells c e x rw)) {g s : Nat} (hm : μ k = some (g, s)) : c.length ≤ s := by
  obtain ⟨g', s', e1, l1, _⟩ := h.lies k _ hk
  rw [hm] at e1; cases e1
  obtain ⟨ob, ho, C, fr, e', rfl, p1, p2, p3, p4, p5⟩ := l1 rfl
  exact p4
theorem Rel.there (h : Rel μ H w0 w) {k : Nat} {c : List Value} {e : TypeId} {x : Bool} (hk : H.t.get k = some (.cells c e x true)) {g s : Nat} (hm : μ k = some (g, s)) (i : Nat) (hi : i < s) :
    (w.cell? ⟨g, i, none⟩).isSome = true ∧ w.frozen? ⟨g, i, none⟩ = false := by
  obtain ⟨g', s', e1, l1, _⟩ := h.lies k _ hk
  rw [hm] at e1; cases e1
  obtain ⟨ob, ho, C, fr, e', rfl, p1, p2, p3, p4, p5⟩ := l1 rfl
  have hiC : i < C.size := by omega
  refine ⟨by simp [World.cell?, ho, hiC], ?_⟩
  obtain ⟨lo, hi'⟩ := fr
  simp only [World.frozen?, ho]
  rcases (p2 rfl).2 with e | e
  · cases e; simp
  · rw [Bool.and_eq_false_iff]; left; rw [decide_eq_false_iff_not]; simp only at e; omega
/-- A new row. -/
theorem afresh_ok (h : Rel μ H w0 w) {el size need cap : Nat} {c c' : List Value} {r : Value} {H' : AH} (hc : LR μ c c') {z : Array Value} (hz : z.size = size) (hs : 0 < size) (hl : c.length = need * size) (hcap : need ≤ cap) (hnb : need < big) (e : afresh H el size need c = some (r, H')) :
    ∃ ν, μ.le ν ∧ Rel ν H' w0 (w.drew.alloc (.cells (c'.toArray ++ Builtin.zeroCells z (cap - need)) el)) ∧ VR ν r (.slice (some ⟨w.heap.size, 0, none⟩) need cap) := by
  unfold afresh at e
  cases hb : Nat.blt (H.next + 1) 1099511627776 with
  | false => rw [hb] at e; cases e
  | true =>
    rw [hb] at e
    simp only [cond_true, Option.some.injEq, Prod.mk.injEq] at e
    obtain ⟨rfl, rfl⟩ := e
    have b1 : H.next + 1 < 1099511627776 := Nat.le_of_ble_eq_true hb
    have hcl := hc.1
    have hmul : need * size ≤ cap * size := Nat.mul_le_mul_right _ hcap
    have hsz : (c'.toArray ++ Builtin.zeroCells z (cap - need)).size = cap * size := by
      rw [Array.size_append, size_zeroCells, hz, Nat.sub_mul]
      simp only [List.size_toArray]
      omega
    obtain ⟨ν, n1, n2, n3⟩ := h.drew.alloc (by omega) (b := .cells c el false true) (o := .cells (c'.toArray ++ Builtin.zeroCells z (cap - need)) el) (s := cap * size)
      ⟨_, (0, 0), el, rfl, hsz, fun _ => ⟨rfl, .inl rfl⟩, (fun e => by cases e), (by omega), fun i v hv => by
        obtain ⟨v', h1, h2⟩ := hc.get hv
        refine ⟨v', ?_, h2⟩
        have hi : i < c'.length := (List.getElem?_eq_some_iff.1 h1).1
        rw [Array.getElem?_append_left (by simpa using hi)]
        simpa using h1⟩
    exact ⟨ν, n1, n3, .slx 0 need need cap size n2 (by omega) hs (Nat.le_refl _) hcap hnb⟩
/-- How news are appended. -/
structure App (P : Program) (t tx ty el : TypeId) (i : TypeInfo) (z : Value) (x' : Value) (n : Nat) (news' : List Value) (w : World) : Prop where
  one : ∀ u ∈ news', u.oneCell' = true
  zero : n = 0 → ∀ cap, (Builtin.append_ #[t, tx] ty #[.slice none 0 cap, x']).run P w = .ok (.slice none 0 cap) w
  room : ∀ b off sLen sCap, sLen + n ≤ sCap → (∀ j, j < news'.length → (w.cell? ⟨b, off + sLen * i.size + j, none⟩).isSome = true) → (∀ j, j < news'.length → w.frozen? ⟨b, off + sLen * i.size + j, none⟩ = false) →
    (Builtin.append_ #[t, tx] ty #[.slice (some ⟨b, off, none⟩) sLen sCap, x']).run P w = .ok (.slice (some ⟨b, off, none⟩) (sLen + n) sCap) (w.setCells b (off + sLen * i.size) news')
  grow : ∀ (base : Option Addr) (sLen sCap : Nat) (olds : List Value), (Builtin.firstCells i.size sLen (.slice base sLen sCap)).run P w.drew = .ok olds.toArray w.drew → sCap < sLen + n → ((sLen + n : Nat) : Int) ≤ 9223372036854775807 →
    Builtin.nextslicecap (sLen + n) sCap * i.bytes ≤ 281474976710656 → (Builtin.append_ #[t, tx] ty #[.slice base sLen sCap, x']).run P w =
      .ok (.slice (some ⟨w.heap.size, 0, none⟩) (sLen + n) (grownCap w (sLen + n) sCap el))
        (w.drew.alloc (.cells ((olds ++ news').toArray ++ Builtin.zeroCells z.cells (grownCap w (sLen + n) sCap el - (sLen + n))) el))
theorem App.src {t tx ty el : TypeId} {i : TypeInfo} {z x' : Value} {n : Nat} {news' : List Value} (hu : P.underlying t = some (.slice el)) (hi : P.info? el = some i) (hz : i.zero = some z) (hs : Src P i.size tx x' n news' w) : App P t tx ty el i z x' n news' w where
  one := hs.one
  zero hn cap := by
    subst hn
    have hnl : news' = [] := by
      have := hs.newsLen
      simp at this
      exact this
    subst hnl
    rcases hs.kind with ⟨e', hk⟩ | hk <;> simp [Builtin.append_, run_underlying hu, run_underlying hk, Go.sizeOf, typeInfo, hi, hs.len, hs.cells]
  room b off sLen sCap := run_append_room_src w t tx ty el i hu hi b off sLen sCap x' n news' hs
  grow base sLen sCap olds hold := run_append_grow_src w t tx ty el i z hu hi hz base sLen sCap olds hold x' n news' hs
theorem zeroCells_arep (z : Array Value) (n : Nat) : (Builtin.zeroCells z n).toList = arep z (n * z.size) := by
  unfold Builtin.zeroCells
  rw [arep_eq]
theorem App.zeros {t tx ty el : TypeId} {i : TypeInfo} {z : Value} {kk : IntKind} {m : Int} {dk : IntKind} (hu : P.underlying t = some (.slice el)) (hux : P.underlying tx = some (.int dk)) (hi : P.info? el = some i) (hz : i.zero = some z) (hs : z.cells.size = i.size) (h0 : 0 < i.size)
    (hm : 0 ≤ m) (hm2 : m ≤ 1048576) (hb : i.bytes ≤ 1048576) (hone : (arep z.cells (m.toNat * i.size)).all (·.oneCell') = true) : App P t tx ty el i z (.int kk m) m.toNat (arep z.cells (m.toNat * i.size)) w := by
  obtain ⟨k, rfl⟩ : ∃ k : Nat, m = k := ⟨m.toNat, by omega⟩
  simp only [Int.toNat_natCast] at *
  have hw : IntKind.i64.wrap (k : Int) = k := wrap_small (by omega) (by omega)
  have hw0 : IntKind.i64.wrap 0 = 0 := wrap_small (by omega) (by omega)
  have hneg : ¬ ((k : Int) < 0) := by omega
  have hmul : k * i.bytes ≤ 1048576 * 1048576 := Nat.mul_le_mul (by omega) hb
  have h48i : ¬ (281474976710656 < (k : Int) * (i.bytes : Int)) := by
    rw [← Int.natCast_mul]
    omega
  have hz2 : arep z.cells (k * i.size) = (Builtin.zeroCells z.cells k).toList := by rw [zeroCells_arep, hs]
  have hone' : ∀ u ∈ arep z.cells (k * i.size), u.oneCell' = true := fun u hu => List.all_eq_true.1 hone u hu
  refine ⟨hone', ?_, ?_, ?_⟩
  · rintro rfl cap
    simp [Builtin.append_, run_underlying hu, run_underlying hux, Go.sizeOf, typeInfo, hi, asInt, asIntOf, hw0]
  · intro b off sLen sCap hroom hc hf
    have hst := run_storeCells_cells (P := P) b (off + sLen * i.size) _ 0 w (by simpa using hc) (by simpa using hf) hone'
    simp only [Nat.add_zero] at hst
    by_cases hk : k = 0
    · subst hk
      rw [Nat.zero_mul] at hst ⊢
      have hroom0 : sLen ≤ sCap := hroom
      simp [Builtin.append_, run_underlying hu, run_underlying hux, Go.sizeOf, typeInfo, zeroValue, hi, hz, asInt, asIntOf, hw0, hroom0, Addr.add_lit, arep]
      simp [arep] at hst
      rw [hst]; rfl
    · have hns : ¬ (k * i.size = 0) := Nat.mul_ne_zero hk (by omega)
      rw [hz2] at hst ⊢
      simp [Builtin.append_, run_underlying hu, run_underlying hux, Go.sizeOf, typeInfo, zeroValue, hi, hz, asInt, asIntOf, hw, hneg, hns, h48i, hroom, Addr.add_lit]
      rw [hst]; rfl
  · intro base sLen sCap olds hold hg h63 hfit
    by_cases hk : k = 0
    · subst hk
      have hn : ¬ (sLen + 0 ≤ sCap) := by omega
      have h63' : ¬ (9223372036854775807 < ((sLen : Int) + ((0 : Nat) : Int))) := by omega
      have h48' : ¬ (281474976710656 < Builtin.nextslicecap (sLen + 0) sCap * i.bytes) := by omega
      simp only [Nat.add_zero] at *
      simp [Builtin.append_, run_underlying hu, run_underlying hux, Go.sizeOf, typeInfo, zeroValue, hi, hz, asInt, asIntOf, hw0, hn, h63', h48', Question.forced, hold, newRow, grownCap, arep]
      try omega
    · rw [Lib.run_append_grow_zeros w t tx ty el i z kk dk hu hux hi hz base sLen sCap olds hold k (by omega) h0 hg h63 (by omega) hfit, hz2]
      congr 3
      apply Array.ext'
      simp
theorem agrow_ok (h : Rel μ H w0 w) {t tx ty el : Nat} {s' x' r : Value} {H' : AH} {base : Option Addr} {sLen cap n : Nat} {news news' : List Value} {i : TypeInfo} {z : Value} (hs : VR μ (.slice base sLen cap) s') (b2 : z.cells.size = i.size) (b3 : 0 < i.size) (b4 : i.bytes ≤ 1048576) (c1 : sLen + n ≤ 1048576) (c2 : news.all (·.oneCell') = true) (hl : news.length = n * i.size)
    (hnr : LR μ news news') (A : App P t tx ty el i z x' n news' w) (e : agrow H el i.size base sLen cap n news = some (r, H')) : GotV P (Builtin.append_ #[t, tx] ty #[s', x']) μ w0 w r H' := by
  have hfit : ∀ sCap, sCap < sLen + n → Builtin.nextslicecap (sLen + n) sCap * i.bytes ≤ 281474976710656 := fun sCap hlt => by
    have h1 := nextslicecap_le (sLen + n) sCap hlt
    have h2 : Builtin.nextslicecap (sLen + n) sCap ≤ 2097664 := by omega
    calc Builtin.nextslicecap (sLen + n) sCap * i.bytes ≤ 2097664 * 1048576 := Nat.mul_le_mul h2 b4
      _ ≤ 281474976710656 := by decide
  have hnb : sLen + n < big := by unfold big; omega
  unfold agrow at e
  split at e
  · -- nil
    cases hs
    cases hz0 : Nat.beq sLen 0 with
    | false => rw [hz0] at e; cases e
    | true =>
      rw [hz0, cond_true] at e
      have hz0 := Nat.eq_of_beq_eq_true hz0
      subst hz0
      cases hn0 : Nat.beq n 0 with
      | true =>
        rw [hn0, cond_true] at e
        have hn0 := Nat.eq_of_beq_eq_true hn0
        subst hn0
        cases e
        refine .pure h (v' := .slice none 0 cap) ?_ (.snil _ _)
        exact A.zero rfl cap
      | false =>
        rw [hn0, cond_false] at e
        cases hcn : Nat.blt cap n with
        | false => rw [hcn] at e; cases e
        | true =>
          rw [hcn, cond_true] at e
          have hcn : cap < n := Nat.le_of_ble_eq_true hcn
          have hg := A.grow none 0 cap [] (by simp [Builtin.firstCells]) (by omega) (by omega) (hfit cap (by omega))
          obtain ⟨ν, n1, n2, n3⟩ := afresh_ok h (cap := grownCap w (0 + n) cap el) hnr b2 b3 hl (by have := grown_ge w (0 + n) cap el; omega) (by omega) e
          refine ⟨ν, _, _, hg, n1, ?_, ?_⟩
          · simpa using n2
          · simpa using n3
  · rename_i k o
    split at e
    · rename_i c el2 ex rw hk
      have key : ∀ g s c', μ k = some (g, s) → (bif Nat.blt cap big then cap else cap % big) ≤ c' → (Nat.blt cap big = true → c' = cap) → (Nat.blt cap big = false → cap / big = i.size → o + c' * i.size = s) →
          (∀ nn, nn ≤ (bif Nat.blt cap big then cap else cap % big) → VR μ (.slice (some ⟨k, o, none⟩) nn cap) (.slice (some ⟨g, o, none⟩) nn c')) → GotV P (Builtin.append_ #[t, tx] ty #[.slice (some ⟨g, o, none⟩) sLen c', x']) μ w0 w r H' := by
        intro g s c' hm hlim hex hin hvr
        cases hr : Nat.ble (sLen + n) (bif Nat.blt cap big then cap else cap % big) with
        | true =>
          rw [hr, cond_true] at e
          have hr := Nat.le_of_ble_eq_true hr
          cases hrw : (rw && Nat.ble (o + (sLen + n) * i.size) c.length) with
          | false => rw [hrw] at e; cases e
          | true =>
            rw [hrw, cond_true] at e
            simp only [Option.some.injEq, Prod.mk.injEq] at e
            obtain ⟨rfl, rfl⟩ := e
            simp only [Bool.and_eq_true] at hrw
            obtain ⟨rfl, hble⟩ := hrw
            have hble := Nat.le_of_ble_eq_true hble
            rw [Nat.add_mul] at hble
            have hnl : news'.length = n * i.size := by rw [← hnr.1]; exact hl
            have hth := h.there hk hm
            have hsl := h.len_le hk hm
            have h1 : ∀ j, j < news'.length → (w.cell? ⟨g, o + sLen * i.size + j, none⟩).isSome = true := fun j hj => (hth _ (by omega)).1
            have h2 : ∀ j, j < news'.length → w.frozen? ⟨g, o + sLen * i.size + j, none⟩ = false := fun j hj => (hth _ (by omega)).2
            have hrun := A.room g o sLen c' (by omega) h1 h2
            obtain ⟨w', r1, r2⟩ := Rel.stores (P := P) hm news news' H c w 0 (o + sLen * i.size) h hk hnr c2 (by omega)
            have hst := run_storeCells_cells (P := P) g (o + sLen * i.size) news' 0 w (by simpa using h1) (by simpa using h2) A.one
            rw [hst] at r1
            simp only [Nat.add_zero, Result.ok.injEq, true_and] at r1
            subst r1
            exact ⟨μ, _, _, hrun, .refl μ, by simpa using r2, hvr _ hr⟩
        | false =>
          rw [hr, cond_false] at e
          have hr : ¬ (sLen + n ≤ (bif Nat.blt cap big then cap else cap % big)) := fun hle => by rw [Nat.ble_eq_true_of_le hle] at hr; cases hr
          cases hco : (Nat.ble (o + sLen * i.size) c.length && ((c.drop o).take (sLen * i.size)).all (·.oneCell')) with
          | false => rw [hco] at e; cases e
          | true =>
            rw [hco, cond_true] at e
            simp only [Bool.and_eq_true] at hco
            have hco1 := Nat.le_of_ble_eq_true hco.1
            obtain ⟨l', q1, q2, q3⟩ := h.row hk hm o (sLen * i.size) hco1
            have hol : ((c.drop o).take (sLen * i.size)).length = sLen * i.size := by rw [q1.1]; exact q2
            have hlen : ((c.drop o).take (sLen * i.size) ++ news).length = (sLen + n) * i.size := by rw [List.length_append, hol, hl, Nat.add_mul]
            have hold : ∀ cc, (Builtin.firstCells i.size sLen (.slice (some ⟨g, o, none⟩) sLen cc)).run P w.drew = .ok l'.toArray w.drew := fun cc =>
              run_firstCells_some w.drew i.size sLen _ sLen cc l' q2 (fun j u hj => by rw [addr_add]; exact q3 j u hj)
            cases hcb : Nat.blt cap big with
            | true =>
              rw [hcb, cond_true] at e hr
              have := hex hcb
              subst this
              have hg := A.grow (some ⟨g, o, none⟩) sLen c' l' (hold _) (by omega) (by omega) (hfit c' (by omega))
              obtain ⟨ν, n1, n2, n3⟩ := afresh_ok h (cap := grownCap w (sLen + n) c' el) (q1.append hnr) b2 b3 hlen (grown_ge w (sLen + n) c' el) hnb e
              exact ⟨ν, _, _, hg, n1, n2, n3⟩
            | false =>
              rw [hcb, cond_false] at e
              cases hcd : (Nat.beq (cap / big) i.size && Nat.beq o 0 && rw && Nat.beq el2 el) with
              | false => rw [hcd] at e; cases e
              | true =>
                rw [hcd, cond_true] at e
                simp only [Bool.and_eq_true] at hcd
                obtain ⟨⟨⟨d1, d2⟩, rfl⟩, d4⟩ := hcd
                have d1 := Nat.eq_of_beq_eq_true d1
                have d2 := Nat.eq_of_beq_eq_true d2
                have d4 := Nat.eq_of_beq_eq_true d4
                subst d2
                subst d4
                have hs0 := hin hcb d1
                by_cases hroom : sLen + n ≤ c'
                · have hnl : news'.length = n * i.size := by rw [← hnr.1]; exact hl
                  have hth := h.there hk hm
                  have hmul : (sLen + n) * i.size ≤ c' * i.size := Nat.mul_le_mul_right _ hroom
                  rw [Nat.add_mul] at hmul
                  have h1 : ∀ j, j < news'.length → (w.cell? ⟨g, 0 + sLen * i.size + j, none⟩).isSome = true := fun j hj => (hth _ (by omega)).1
                  have h2 : ∀ j, j < news'.length → w.frozen? ⟨g, 0 + sLen * i.size + j, none⟩ = false := fun j hj => (hth _ (by omega)).2
                  have hrun := A.room g 0 sLen c' hroom h1 h2
                  obtain ⟨g', s', e1, l1, _⟩ := h.lies k _ hk
                  rw [hm] at e1; cases e1
                  obtain ⟨ob, ho, C, fr, e', rfl, p1, p2, p3, p4, p5⟩ := l1 rfl
                  obtain ⟨he', p2⟩ := p2 rfl
                  rw [he'] at ho
                  have hCl : C.toList.length = s := by rw [Array.length_toList]; exact p1
                  rw [setCells_over g el2 fr news' _ w C ho] at hrun
                  unfold afresh at e
                  cases hnx : Nat.blt ((H.put k .dead).next + 1) 1099511627776 with
                  | false => rw [hnx] at e; cases e
                  | true =>
                    rw [hnx] at e
                    simp only [cond_true, Option.some.injEq, Prod.mk.injEq] at e
                    obtain ⟨rfl, rfl⟩ := e
                    have hnx : H.next + 1 < 1099511627776 := Nat.le_of_ble_eq_true hnx
                    obtain ⟨ν, n1, n2, n3⟩ := h.hand (by omega) hk rfl hm (b' := .cells ((c.drop 0).take (sLen * i.size) ++ news) el2 false true) (o := .cells (setRange C.toList (0 + sLen * i.size) news').toArray el2 fr)
                      ⟨_, fr, el2, rfl, by rw [List.size_toArray, length_setRange]; exact hCl, fun _ => ⟨rfl, p2⟩, (fun e => by cases e), (by rw [hlen, Nat.add_mul]; omega), fun j v hv => by
                        have hgs := getElem?_setRange news' C.toList (0 + sLen * i.size) j (by omega)
                        rw [List.getElem?_toArray, hgs]
                        by_cases hj : j < sLen * i.size
                        · rw [if_neg (by omega)]
                          rw [List.getElem?_append_left (by omega), List.getElem?_take, if_pos hj, List.getElem?_drop] at hv
                          obtain ⟨u, hu1, hu2⟩ := p5 _ v hv
                          simp only [Nat.zero_add] at hu1
                          exact ⟨u, by rw [Array.getElem?_toList]; exact hu1, hu2⟩
                        · rw [List.getElem?_append_right (by omega), hol] at hv
                          obtain ⟨u, hu1, hu2⟩ := hnr.get hv
                          have hjl := (List.getElem?_eq_some_iff.1 hu1).1
                          rw [if_pos (by omega)]
                          exact ⟨u, by rw [← hu1]; congr 1; omega, hu2⟩⟩
                    exact ⟨ν, _, _, hrun, n1, n3, .slx 0 (sLen + n) (sLen + n) c' i.size n2 hs0 b3 (Nat.le_refl _) hroom hnb⟩
                · have hg := A.grow (some ⟨g, 0, none⟩) sLen c' l' (hold _) (by omega) (by omega) (hfit c' (by omega))
                  obtain ⟨ν, n1, n2, n3⟩ := afresh_ok (h.kill hk) (cap := grownCap w (sLen + n) c' el2) (q1.append hnr) b2 b3 hlen (grown_ge w (sLen + n) c' el2) hnb e
                  exact ⟨ν, _, _, hg, n1, n2, n3⟩
      cases hs with
      | @sl _ g s _ _ _ hm hlt =>
        have hcb : Nat.blt cap big = true := Nat.ble_eq_true_of_le hlt
        exact key g s cap hm (by rw [hcb]; exact Nat.le_refl _) (fun _ => rfl) (fun hf => by rw [hcb] at hf; cases hf) (fun nn _ => .sl _ _ _ hm hlt)
      | @slx _ g s _ _ c0 c' ez hm a1 a2 a3 a4 a5 =>
        have hcb : Nat.blt (ez * big + c0) big = false := by
          cases hq : Nat.blt (ez * big + c0) big with
          | false => rfl
          | true =>
            have : ez * big + c0 < big := Nat.le_of_ble_eq_true hq
            have : big ≤ ez * big := Nat.le_mul_of_pos_left _ a2
            omega
        refine key g s c' hm (by rw [hcb, cond_false, (div_big a5).2]; exact a4) (fun hf => by rw [hcb] at hf; cases hf) (fun _ hdiv => by rw [(div_big a5).1] at hdiv; rw [← hdiv]; exact a1) (fun nn hle => ?_)
        rw [hcb, cond_false, (div_big a5).2] at hle
        exact .slx _ _ _ _ _ hm a1 a2 hle a4 a5
    · cases e
  · cases e
theorem aappend_ok (hE : E.Ok P) (h : Rel μ H w0 w) {t tx ty : Nat} {s s' x x' r : Value} {H' : AH} (hs : VR μ s s') (hx : VR μ x x') (e : aappend E H t tx s x = some (r, H')) : GotV P (Builtin.append_ #[t, tx] ty #[s', x']) μ w0 w r H' := by
  unfold aappend at e
  split at e
  · rename_i el dx hu hux
    split at e
    · rename_i i hi
      split at e
      · rename_i z hz
        cases hzk : isZerosK dx with
        | true =>
          rw [hzk, cond_true] at e
          obtain ⟨dk, rfl⟩ : ∃ dk, dx = .int dk := by
            unfold isZerosK at hzk
            split at hzk
            · exact ⟨_, rfl⟩
            · cases hzk
          unfold azeros at e
          split at e
          · rename_i base sLen cap kk m
            cases hx
            cases hb : (Nat.beq z.cells.size i.size && Nat.blt 0 i.size && Nat.ble i.bytes 1048576 && Nat.ble (sLen + m.toNat) 1048576 && decide (0 ≤ m) && (arep z.cells (m.toNat * i.size)).all (cval 6) && (arep z.cells (m.toNat * i.size)).all (·.oneCell')) with
            | false => rw [hb] at e; cases e
            | true =>
              rw [hb, cond_true] at e
              simp only [Bool.and_eq_true, decide_eq_true_eq] at hb
              obtain ⟨⟨⟨⟨⟨⟨b1, b2⟩, b3⟩, b4⟩, b5⟩, b6⟩, b7⟩ := hb
              have b1 := Nat.eq_of_beq_eq_true b1
              have b2 : 0 < i.size := Nat.le_of_ble_eq_true b2
              have b3 := Nat.le_of_ble_eq_true b3
              have b4 := Nat.le_of_ble_eq_true b4
              have hlen : (arep z.cells (m.toNat * i.size)).length = m.toNat * i.size := by rw [← arep_eq]; simp
              exact agrow_ok h hs b1 b2 b3 b4 b7 hlen (LR.refl_of b6) (App.zeros (hE.und _ _ hu) (hE.und _ _ hux) (hE.info _ _ hi) hz b1 b2 b5 (by omega) b3 b7) e
          · cases e
        | false =>
        rw [hzk, cond_false] at e
        cases hb : (kindFits dx x && Nat.beq z.cells.size i.size && Nat.blt 0 i.size && Nat.ble i.bytes 1048576) with
        | false => rw [hb] at e; cases e
        | true =>
          rw [hb, cond_true] at e
          simp only [Bool.and_eq_true] at hb
          obtain ⟨⟨⟨b1, b2⟩, b3⟩, b4⟩ := hb
          have b2 := Nat.eq_of_beq_eq_true b2
          have b3 : 0 < i.size := Nat.le_of_ble_eq_true b3
          have b4 := Nat.le_of_ble_eq_true b4
          split at e
          · rename_i n news base sLen cap hn
            cases hc : (Nat.ble (sLen + n) 1048576 && news.all (·.oneCell')) with
            | false => rw [hc] at e; cases e
            | true =>
              rw [hc, cond_true] at e
              simp only [Bool.and_eq_true] at hc
              obtain ⟨c1, c2⟩ := hc
              have c1 := Nat.le_of_ble_eq_true c1
              have hkf : ((∃ e', dx = .slice e') ∨ dx = .string) ∧ (∀ s, x = .string s → dx = .string) ∧ (∀ a n c, x = .slice a n c → ∃ e', dx = .slice e') := by
                unfold kindFits at b1
                split at b1
                · exact ⟨.inl ⟨_, rfl⟩, fun s hs => by (first | cases hs | (subst hs; contradiction)), fun _ _ _ _ => ⟨_, rfl⟩⟩
                · exact ⟨.inr rfl, fun _ _ => rfl, fun a n c hs => by cases hs⟩
                · cases b1
              obtain ⟨hl, news', hnr, hsrc⟩ := acells_ok hE h hux hkf.1 hkf.2.1 hkf.2.2 hx hn c2
              exact agrow_ok h hs b2 b3 b4 c1 c2 hl hnr (.src (hE.und _ _ hu) (hE.info _ _ hi) hz hsrc) e
          · cases e
      · cases e
    · cases e
  · cases e
end
end AM
end Go.Proofs.YtdmbppgogdkpdaaGreatDoor
namespace Go.Proofs.YtdmbppgogdkpdaaGreatDoor
namespace AM
open Go.RowKit
variable [Toks]

theorem cval_eq {μ : Mp} : ∀ (n : Nat) (v v' : Value), cval n v = true → VR μ v v' → v' = v
  | 0, v, v', h, _ => by simp [cval] at h
  | n + 1, v, v', h, hv => by
    have row : ∀ {cs cs' : Array Value}, cs.toList.all (cval n) = true → cs.size = cs'.size → (∀ (i : Nat) (v v' : Value), cs[i]? = some v → cs'[i]? = some v' → VR μ v v') → cs' = cs := by
      intro cs cs' h1 h2 h3
      apply Array.ext (by omega)
      intro i hi1 hi2
      have hm : cs[i] ∈ cs.toList := Array.getElem_mem_toList hi2
      exact cval_eq n _ _ (List.all_eq_true.1 h1 _ hm) (h3 i _ _ (Array.getElem?_eq_getElem hi2) (Array.getElem?_eq_getElem hi1))
    cases hv with
    | bool b => rfl
    | int k m => rfl
    | string s => rfl
    | pnil => rfl
    | ptr o e => simp [cval] at h
    | snil m c => rfl
    | sl o m c e e2 => simp [cval] at h
    | slx o m c c' e a1 a2 a3 a4 a5 a6 => simp [cval] at h
    | mnil => rfl
    | map e => simp [cval] at h
    | nilFunc => rfl
    | nilIface => rfl
    | iface t hv => rw [cval_eq n _ _ (by simpa only [cval] using h) hv]
    | func f h1 h2 h3 h4 =>
      simp only [cval, Bool.and_eq_true, List.isEmpty_iff, Array.toList_eq_nil_iff] at h
      obtain ⟨rfl, rfl⟩ := h
      have e1 := Array.eq_empty_of_size_eq_zero h1.symm
      have e2 := Array.eq_empty_of_size_eq_zero h3.symm
      rw [e1, e2]
    | yield e => simp [cval] at h
    | agg h1 h2 => rw [row (by simpa only [cval] using h) h1 h2]
    | tuple h1 h2 => rw [row (by simpa only [cval] using h) h1 h2]
    | unkI k n => simp [cval] at h
    | unkS s => simp [cval] at h
    | unkN n => simp [cval] at h
    | unkB b => simp [cval] at h
    | tokI q k => simp [cval] at h
    | tokS q k => simp [cval] at h
    | tokB q k => simp [cval] at h
section
variable {P : Program} {E : Env} {Q : Eqs} {μ : Mp} {H : AH} {w0 : Base} {w : World}
/-- May a value be a key? -/
def acheckFields (E : Env) (chk : Nat → Value → Bool) (cs : List Value) : List Field → Bool
  | [] => true
  | f :: fs => bif f.name == "_" then acheckFields E chk cs fs else match apart E f.type cs f.offset with
    | some v => chk f.type v && acheckFields E chk cs fs
    | none => false
def acheckElems (E : Env) (chk : Nat → Value → Bool) (el sz : Nat) (cs : List Value) : List Nat → Bool
  | [] => true
  | i :: l => match apart E el cs (i * sz) with
    | some v => chk el v && acheckElems E chk el sz cs l
    | none => false
def acheck (E : Env) : Nat → Nat → Value → Bool
  | 0, _, _ => false
  | d + 1, t, v => match E.und t, v with
    | some (.int _), _ | some .string, _ | some .bool, _ => true
    | some (.struct fs), .agg cs => acheckFields E (acheck E d) cs.toList fs.toList
    | some (.array n el), .agg cs => match E.info el with
      | some i => acheckElems E (acheck E d) el i.size cs.toList (List.range' 0 n)
      | none => false
    | _, _ => false
theorem acheck_ok (hE : E.Ok P) : ∀ (d t : Nat) (v v' : Value) (D : Nat) (em : Bool), d ≤ D → VR μ v v' → acheck E d t v = true → (Instr.checkKey em D t v').run P w = .ok () w
  | 0, _, _, _, _, _, _, _, e => by simp [acheck] at e
  | d + 1, _, _, _, 0, _, hD, _, _ => by omega
  | d + 1, t, v, v', D + 1, em, hD, hv, e => by
    simp only [acheck] at e
    split at e
    · rename_i hu
      simp only [Instr.checkKey, Sem.run_bind, run_und hE hu, Result.andThen_ok, Sem.run_pure]
    · rename_i hu
      simp only [Instr.checkKey, Sem.run_bind, run_und hE hu, Result.andThen_ok, Sem.run_pure]
    · rename_i hu
      simp only [Instr.checkKey, Sem.run_bind, run_und hE hu, Result.andThen_ok, Sem.run_pure]
    · rename_i fs cs hu
      cases hv with
      | agg h1 h2 =>
        simp only [Instr.checkKey, Sem.run_bind, run_und hE hu, Result.andThen_ok]
        rw [← Array.forIn_toList]
        have hc := fun t v v' hv hc => acheck_ok hE d t v v' D em (by omega) hv hc
        have hr : AR μ cs _ := ⟨h1, h2⟩
        clear hu
        revert e
        generalize fs.toList = l
        intro e
        induction l with
        | nil => rfl
        | cons f fs ih =>
          simp only [acheckFields] at e
          cases hn : (f.name == "_") with
          | true =>
            rw [hn, cond_true] at e
            have hn' : f.name = "_" := by simpa using hn
            simp only [List.forIn_cons, hn', ne_eq, not_true_eq_false, if_false, Sem.run_bind, Sem.run_pure, Result.andThen_ok]
            exact ih e
          | false =>
            rw [hn, cond_false] at e
            have hn' : f.name ≠ "_" := by simpa using hn
            split at e
            · rename_i v hv
              rw [Bool.and_eq_true] at e
              obtain ⟨v', r1, r2⟩ := apart_ok hE hr hv w
              simp only [List.forIn_cons, if_pos hn', Sem.run_bind, Sem.run_pure, r1, Result.andThen_ok, hc _ _ _ r2 e.1]
              exact ih e.2
            · cases e
    · rename_i n el cs hu
      cases hv with
      | agg h1 h2 =>
        split at e
        · rename_i inf hinf
          simp only [Instr.checkKey, Sem.run_bind, run_und hE hu, Result.andThen_ok]
          have hc := fun t v v' hv hc => acheck_ok hE d t v v' D em (by omega) hv hc
          have hr : AR μ cs _ := ⟨h1, h2⟩
          simp only [Std.Legacy.Range.forIn_eq_forIn_range', Std.Legacy.Range.size, Nat.sub_zero, Nat.add_one_sub_one, Nat.div_one]
          clear hu
          revert e
          generalize List.range' 0 n = l
          intro e
          induction l with
          | nil => rfl
          | cons i l ih =>
            simp only [acheckElems] at e
            split at e
            · rename_i v hv
              rw [Bool.and_eq_true] at e
              obtain ⟨v', r1, r2⟩ := apart_ok hE hr hv w
              simp only [List.forIn_cons, Sem.run_bind, Sem.run_pure, run_size hE hinf, r1, Result.andThen_ok, hc _ _ _ r2 e.1]
              exact ih e.2
            · cases e
        · cases e
    · cases e
/-- The entry of a key. -/
def afind (E : Env) (Q : Eqs) (kt : Nat) (key : Value) : List (Value × Value × Nat) → Nat → Option (Option (Nat × Value))
  | [], _ => some none
  | e :: es, i => match aeq E Q 40 kt key e.1 with
    | some true => some (some (i, e.2.1))
    | some false => afind E Q kt key es (i + 1)
    | none => none
def MR (μ : Mp) (es : List (Value × Value × Nat)) (fs : List MapEntry) : Prop := fs.length = es.length ∧ ∀ (i : Nat) (e : Value × Value × Nat) (e' : MapEntry), es[i]? = some e → fs[i]? = some e' → VR μ e.1 e'.key ∧ VR μ e.2.1 e'.val ∧ e'.born = e.2.2
theorem MR.inv {es : List (Value × Value × Nat)} {e : Value × Value × Nat} {fs : List MapEntry} (h : MR μ (e :: es) fs) : ∃ f gs, fs = f :: gs ∧ (VR μ e.1 f.key ∧ VR μ e.2.1 f.val ∧ f.born = e.2.2) ∧ MR μ es gs := by
  cases fs with
  | nil => have := h.1; simp at this
  | cons f gs => exact ⟨f, gs, rfl, h.2 0 e f rfl rfl, by have := h.1; simpa using this, fun i a b h1 h2 => h.2 (i + 1) a b (by simpa using h1) (by simpa using h2)⟩
def FR (μ : Mp) : Option (Nat × Value) → Option (Nat × Value) → Prop
  | none, none => True
  | some (i, v), some (j, u) => i = j ∧ VR μ v u
  | _, _ => False
theorem afind_asking (hE : E.Ok P) (hQ : Q.Ok P) (h : Rel μ H w0 w) {kt : Nat} {key key' : Value} (hk : VR μ key key') : ∀ (es : List (Value × Value × Nat)) (fs : List MapEntry) (i : Nat) (r : Option (Nat × Value)), MR μ es fs → afind E Q kt key es i = some r →
      ∃ r', (Instr.findAsking kt key' fs i).run P w = .ok r' w ∧ FR μ r r'
  | [], fs, i, r, hm, e => by
    cases e
    have : fs = [] := by have := hm.1; simpa using this
    subst this
    exact ⟨none, rfl, trivial⟩
  | a :: es, fs, i, r, hm, e => by
    obtain ⟨f, gs, rfl, ⟨h1, h2, h3⟩, h4⟩ := hm.inv
    simp only [afind] at e
    split at e
    · rename_i he
      cases e
      have := aeq_ok hE hQ h 40 kt key key' a.1 f.key true 10000 (by decide) hk h1 he
      refine ⟨some (i, f.val), ?_, rfl, h2⟩
      simp only [Instr.findAsking, Sem.run_bind, Op.equal, Op.maxDepth, this, Result.andThen_ok, if_true, Sem.run_pure]
    · rename_i he
      have := aeq_ok hE hQ h 40 kt key key' a.1 f.key false 10000 (by decide) hk h1 he
      obtain ⟨r', q1, q2⟩ := afind_asking hE hQ h hk es gs (i + 1) r h4 e
      refine ⟨r', ?_, q2⟩
      simp only [Instr.findAsking, Sem.run_bind, Op.equal, Op.maxDepth, this, Result.andThen_ok, Bool.false_eq_true, if_false, q1]
    · cases e
/-- What is told at once is what is told by asking. -/
theorem sameNow_eq (hE : E.Ok P) (hQ : Q.Ok P) (h : Rel μ H w0 w) {kt : Nat} {d : TypeDesc} (hu : E.und kt = some d) {x x' y y' : Value} (hx : VR μ x x') (hy : VR μ y y') {b : Bool} (e : aeq E Q 40 kt x y = some b) {c : Bool} (hs : Instr.sameNow d x' y' = some c) : c = b := by
  obtain ⟨D, hD⟩ : ∃ D, 40 ≤ D + 1 := ⟨40, by decide⟩
  have key := aeq_ok hE hQ h 40 kt x x' y y' b (D + 1) hD hx hy e
  unfold Instr.sameNow at hs
  split at hs
  · simp only [Op.equalIn, Sem.run_bind, run_und hE hu, Result.andThen_ok] at key
    split at hs
    · rename_i hk
      rw [if_pos hk] at key
      cases hs
      simp only [Sem.run_pure, Result.ok.injEq, and_true] at key
      exact key
    · cases hs
  · simp only [Op.equalIn, Sem.run_bind, run_und hE hu, Result.andThen_ok] at key
    cases hs
    simp only [Sem.run_pure, Result.ok.injEq, and_true] at key
    exact key
  · simp only [Op.equalIn, Sem.run_bind, run_und hE hu, Result.andThen_ok] at key
    cases hs
    simp only [Sem.run_pure, Result.ok.injEq, and_true] at key
    exact key
  · cases hs
theorem afind_now (hE : E.Ok P) (hQ : Q.Ok P) (h : Rel μ H w0 w) {kt : Nat} {d : TypeDesc} (hu : E.und kt = some d) {key key' : Value} (hk : VR μ key key') : ∀ (es : List (Value × Value × Nat)) (fs : List MapEntry) (i : Nat) (r r' : Option (Nat × Value)), MR μ es fs → afind E Q kt key es i = some r → Instr.findNow d key' fs i = some r' → FR μ r r'
  | [], fs, i, r, r', hm, e, e' => by
    cases e
    have : fs = [] := by have := hm.1; simpa using this
    subst this
    simp only [Instr.findNow, Option.some.injEq] at e'
    subst e'
    trivial
  | a :: es, fs, i, r, r', hm, e, e' => by
    obtain ⟨f, gs, rfl, ⟨h1, h2, h3⟩, h4⟩ := hm.inv
    simp only [afind] at e
    simp only [Instr.findNow] at e'
    split at e
    · rename_i he
      cases e
      split at e'
      · cases e'; exact ⟨rfl, h2⟩
      · rename_i hs
        have := sameNow_eq hE hQ h hu hk h1 he hs
        cases this
      · cases e'
    · rename_i he
      split at e'
      · rename_i hs
        have := sameNow_eq hE hQ h hu hk h1 he hs
        cases this
      · exact afind_now hE hQ h hu hk es gs (i + 1) r r' h4 e e'
      · cases e'
    · cases e
theorem afind_ok (hE : E.Ok P) (hQ : Q.Ok P) (h : Rel μ H w0 w) {kt : Nat} {d : TypeDesc} (hu : E.und kt = some d) {key key' : Value} (hk : VR μ key key') {es : List (Value × Value × Nat)} {fs : List MapEntry} {r : Option (Nat × Value)} (hm : MR μ es fs) (e : afind E Q kt key es 0 = some r) :
    ∃ r', (Instr.findKey kt key' fs).run P w = .ok r' w ∧ FR μ r r' := by
  simp only [Instr.findKey, Sem.run_bind, run_und hE hu, Result.andThen_ok]
  cases hn : Instr.findNow d key' fs 0 with
  | none => exact afind_asking hE hQ h hk es fs 0 r hm e
  | some r' => exact ⟨r', rfl, afind_now hE hQ h hu hk es fs 0 r r' hm e hn⟩
end
end AM
end Go.Proofs.YtdmbppgogdkpdaaGreatDoor
namespace Go.Proofs.YtdmbppgogdkpdaaGreatDoor
namespace AM
open Go.RowKit
variable [Toks]

section
variable {P : Program} {E : Env} {Q : Eqs} {μ : Mp} {H : AH} {w0 : Base} {w : World}
theorem Rel.mapR (h : Rel μ H w0 w) {k : Nat} {es : List (Value × Value × Nat)} {n : Nat} (hk : H.t.get k = some (.map es n)) {g s : Nat} (hm : μ k = some (g, s)) : ∃ F : Array MapEntry, w.heap[g]? = some (.map F n) ∧ MR μ es F.toList := by
  obtain ⟨F, h1, h2, h3⟩ := h.map hk hm
  exact ⟨F, h1, by simpa using h2, fun i e e' a b => h3 i e e' a (by simpa using b)⟩
def alookup (E : Env) (Q : Eqs) (H : AH) (t : Nat) (m key : Value) (ok : Bool) : Option Value := match E.und t with
  | some (.map kt el) => match E.info el, E.und kt with
    | some i, some _ => match i.zero with
      | some z => bif cval 6 z && acheck E 40 kt key then
          (match (match m with
            | .map none => some []
            | .map (some k) => match H.t.get k with
              | some (.map es _) => some es
              | _ => none
            | _ => none) with
          | some es => match afind E Q kt key es 0 with
            | some (some (_, v)) => some (bif ok then .tuple #[v, .bool true] else v)
            | some none => some (bif ok then .tuple #[z, .bool false] else z)
            | none => none
          | none => none) else none
      | none => none
    | _, _ => none
  | _ => none
theorem VR.pair {v v' : Value} (h : VR μ v v') (b : Bool) : VR μ (.tuple #[v, .bool b]) (.tuple #[v', .bool b]) := by
  have := (LR.cons h (LR.cons (VR.bool (μ := μ) b) (.nil μ))).toArray
  exact .tuple this.1 this.2
theorem alookup_ok (hE : E.Ok P) (hQ : Q.Ok P) (h : Rel μ H w0 w) {t : Nat} {m m' key key' v : Value} {ok : Bool} (hm : VR μ m m') (hk : VR μ key key') (e : alookup E Q H t m key ok = some v) : GotV P (Instr.lookup t m' key' ok) μ w0 w v H := by
  unfold alookup at e
  split at e
  · rename_i kt el hu
    split at e
    · rename_i i d hi hkt
      split at e
      · rename_i z hz
        cases hb : (cval 6 z && acheck E 40 kt key) with
        | false => rw [hb] at e; cases e
        | true =>
          rw [hb, cond_true] at e
          rw [Bool.and_eq_true] at hb
          have hck : ∀ em, (Instr.checkKey em 10000 kt key').run P w = .ok () w := fun em => acheck_ok hE 40 kt key key' 10000 em (by decide) hk hb.2
          have fin : ∀ (es : List (Value × Value × Nat)) (F : Array MapEntry), MR μ es F.toList →
              ((m' = .map none ∧ F = #[]) ∨ ∃ g n, m' = .map (some g) ∧ w.heap[g]? = some (.map F n)) →
              (match afind E Q kt key es 0 with
                | some (some (_, v)) => some (bif ok then .tuple #[v, .bool true] else v)
                | some none => some (bif ok then .tuple #[z, .bool false] else z)
                | none => none) = some v → GotV P (Instr.lookup t m' key' ok) μ w0 w v H := by
            intro es F hF hrun e
            split at e
            · rename_i j u hf
              obtain ⟨r', q1, q2⟩ := afind_ok hE hQ h hkt hk hF hf
              cases r' with
              | none => exact q2.elim
              | some r' =>
                obtain ⟨j', u'⟩ := r'
                obtain ⟨rfl, q3⟩ := q2
                cases e
                refine .pure h (v' := if ok then .tuple #[u', .bool true] else u') ?_ ?_
                · rcases hrun with ⟨rfl, rfl⟩ | ⟨g, n, rfl, hF2⟩
                  · simp only [Instr.lookup, Sem.run_bind, run_und hE hu, Result.andThen_ok, hck, q1, Sem.run_pure]
                  · simp only [Instr.lookup, Sem.run_bind, run_und hE hu, Result.andThen_ok, hck, q1, Sem.run_pure, run_getMap hF2]
                · cases ok
                  · exact q3
                  · exact q3.pair true
            · rename_i hf
              obtain ⟨r', q1, q2⟩ := afind_ok hE hQ h hkt hk hF hf
              cases r' with
              | some r' => exact q2.elim
              | none =>
                cases e
                have hzr := cval_ok μ 6 z hb.1
                refine .pure h (v' := if ok then .tuple #[z, .bool false] else z) ?_ ?_
                · rcases hrun with ⟨rfl, rfl⟩ | ⟨g, n, rfl, hF2⟩
                  · simp only [Instr.lookup, Sem.run_bind, run_und hE hu, Result.andThen_ok, hck, q1, Sem.run_pure, run_zero hE hi hz]
                  · simp only [Instr.lookup, Sem.run_bind, run_und hE hu, Result.andThen_ok, hck, q1, Sem.run_pure, run_zero hE hi hz, run_getMap hF2]
                · cases ok
                  · exact hzr
                  · exact hzr.pair false
            · cases e
          split at e
          · rename_i es hes
            split at hes
            · cases hes; cases hm
              exact fin [] #[] ⟨rfl, by simp⟩ (.inl ⟨rfl, rfl⟩) e
            · split at hes
              · rename_i es2 n hkk
                cases hes
                cases hm with
                | map hmm =>
                  obtain ⟨F, hF, hMR⟩ := h.mapR hkk hmm
                  exact fin _ F hMR (.inr ⟨_, _, rfl, hF⟩) e
              · cases hes
            · cases hes
          · cases e
      · cases e
    · cases e
  · cases e
theorem MR.set {es : List (Value × Value × Nat)} {fs : List MapEntry} (h : MR μ es fs) {e : Value × Value × Nat} {e' : MapEntry} (he : VR μ e.1 e'.key ∧ VR μ e.2.1 e'.val ∧ e'.born = e.2.2) (i : Nat) : MR μ (es.set i e) (fs.set i e') := by
  refine ⟨by simp [h.1], fun j a b h1 h2 => ?_⟩
  rw [List.getElem?_set] at h1 h2
  by_cases ej : i = j
  · subst ej
    simp only [if_true] at h1 h2
    split at h1
    · rw [if_pos (by rw [h.1]; assumption)] at h2
      cases h1; cases h2; exact he
    · cases h1
  · rw [if_neg ej] at h1 h2; exact h.2 j a b h1 h2
theorem MR.push {es : List (Value × Value × Nat)} {fs : List MapEntry} (h : MR μ es fs) {e : Value × Value × Nat} {e' : MapEntry} (he : VR μ e.1 e'.key ∧ VR μ e.2.1 e'.val ∧ e'.born = e.2.2) : MR μ (es ++ [e]) (fs ++ [e']) := by
  refine ⟨by simp [h.1], fun j a b h1 h2 => ?_⟩
  rw [List.getElem?_append] at h1 h2
  rw [h.1] at h2
  split at h1
  · rename_i hj
    rw [if_pos hj] at h2
    exact h.2 j a b h1 h2
  · rename_i hj
    rw [if_neg hj] at h2
    cases hd : j - es.length with
    | zero => rw [hd] at h1 h2; cases h1; cases h2; exact he
    | succ m => rw [hd] at h1; simp at h1
theorem MR.blk {es : List (Value × Value × Nat)} {F : Array MapEntry} {n s : Nat} (h : MR μ es F.toList) : BlkR μ s (.map es n) (.map F n) :=
  ⟨F, rfl, by have := h.1; simpa using this, fun i e e' a b => h.2 i e e' a (by simpa using b)⟩
theorem run_setMap (W : World) {g : Nat} {F : Array MapEntry} {n : Nat} (h : W.heap[g]? = some (.map F n)) (o : Obj) : (setObj g o).run P W = .ok () (World.over W g o) := by
  simp only [setObj, Sem.run, h]; rfl
/-- An entry is written. -/
def amapUpdate (E : Env) (Q : Eqs) (H : AH) (t : Nat) (m key v : Value) : Option AH := match E.und t, m with
  | some (.map kt _), .map (some k) => match E.und kt, H.t.get k with
    | some _, some (.map es n) => bif acheck E 40 kt key && cval 6 key then (match afind E Q kt key es 0 with
        | some (some (i, _)) => match es[i]? with
          | some e => bif cval 6 e.1 && Instr.sameBits 10000 e.1 key then some (H.put k (.map (es.set i (key, v, e.2.2)) n)) else none
          | none => none
        | some none => some (H.put k (.map (es ++ [(key, v, n)]) (n + 1)))
        | none => none) else none
    | _, _ => none
  | _, _ => none
theorem modify_set (F : Array MapEntry) (i : Nat) (f : MapEntry → MapEntry) {x : MapEntry} (h : F[i]? = some x) : (F.modify i f).toList = F.toList.set i (f x) := by
  apply List.ext_getElem?
  intro j
  rw [Array.getElem?_toList, Array.getElem?_modify, List.getElem?_set, Array.getElem?_toList]
  have hlt := (Array.getElem?_eq_some_iff.1 h).1
  by_cases e : i = j
  · subst e
    have hx : F[i] = x := by rw [Array.getElem?_eq_getElem hlt] at h; exact Option.some.inj h
    simp [hlt, hx]
  · simp [e]
theorem amapUpdate_ok (hE : E.Ok P) (hQ : Q.Ok P) (h : Rel μ H w0 w) {t : Nat} {m m' key key' v v' : Value} {H' : AH} (hm : VR μ m m') (hk : VR μ key key') (hv : VR μ v v') (e : amapUpdate E Q H t m key v = some H') :
    ∃ w', (Instr.mapUpdate t m' key' v').run P w = .ok () w' ∧ Rel μ H' w0 w' := by
  unfold amapUpdate at e
  split at e
  · rename_i kt el k hu
    split at e
    · rename_i d es n hkt hkk
      cases hb : (acheck E 40 kt key && cval 6 key) with
      | false => rw [hb] at e; cases e
      | true =>
        rw [hb, cond_true] at e
        rw [Bool.and_eq_true] at hb
        have hck : ∀ em, (Instr.checkKey em 10000 kt key').run P w = .ok () w := fun em => acheck_ok hE 40 kt key key' 10000 em (by decide) hk hb.1
        have hkeq := cval_eq 6 key key' hb.2 hk
        subst hkeq
        cases hm with
        | @map _ g s hmm =>
          obtain ⟨F, hF, hMR⟩ := h.mapR hkk hmm
          split at e
          · rename_i i u hf
            split at e
            · rename_i en hen
              cases hb2 : (cval 6 en.1 && Instr.sameBits 10000 en.1 key') with
              | false => rw [hb2] at e; cases e
              | true =>
                rw [hb2, cond_true] at e
                cases e
                rw [Bool.and_eq_true] at hb2
                obtain ⟨r', q1, q2⟩ := afind_ok hE hQ h hkt hk hMR hf
                cases r' with
                | none => exact q2.elim
                | some r' =>
                  obtain ⟨j', u'⟩ := r'
                  obtain ⟨rfl, q3⟩ := q2
                  have hil : i < F.toList.length := by rw [hMR.1]; exact (List.getElem?_eq_some_iff.1 hen).1
                  have hFi : F[i]? = some F.toList[i] := by simp at hil; simp [hil]
                  have hent := hMR.2 i en _ hen (List.getElem?_eq_getElem hil)
                  have hke := cval_eq 6 en.1 _ hb2.1 hent.1
                  refine ⟨World.over w g (.map (F.modify i fun e => { e with key := key', val := v' }) n), ?_, ?_⟩
                  · simp only [Instr.mapUpdate, Sem.run_bind, run_und hE hu, Result.andThen_ok, run_getMap hF, hck, q1, Instr.keyThatStays, hFi, Option.map_some, Option.getD_some, hke, hb2.2, if_true, Sem.run_pure]
                    exact run_setMap w hF _
                  · refine h.over hkk rfl rfl hmm (MR.blk ?_)
                    rw [modify_set F i _ hFi]
                    exact hMR.set (e := (key', v, en.2.2)) (e' := { F.toList[i] with key := key', val := v' }) ⟨hk, hv, hent.2.2⟩ i
            · cases e
          · rename_i hf
            cases e
            obtain ⟨r', q1, q2⟩ := afind_ok hE hQ h hkt hk hMR hf
            cases r' with
            | some r' => exact q2.elim
            | none =>
              refine ⟨World.over w g (.map (F.push { key := key', val := v', born := n }) (n + 1)), ?_, ?_⟩
              · simp only [Instr.mapUpdate, Sem.run_bind, run_und hE hu, Result.andThen_ok, run_getMap hF, hck, q1]
                exact run_setMap w hF _
              · refine h.over hkk rfl rfl hmm (MR.blk ?_)
                rw [Array.toList_push]
                exact hMR.push ⟨hk, hv, rfl⟩
          · cases e
    · cases e
  · cases e
/-- An entry is found, or made, and its value told. -/
def amapEntry (E : Env) (Q : Eqs) (H : AH) (t : Nat) (m key : Value) : Option (Value × AH) := match E.und t, m with
  | some (.map kt el), .map (some k) => match E.und kt, H.t.get k, E.info el with
    | some _, some (.map es n), some i => match i.zero with
      | some z => bif acheck E 40 kt key && cval 6 key && cval 6 z then (match afind E Q kt key es 0 with
        | some (some (i, v)) => match es[i]? with
          | some e => bif cval 6 e.1 && Instr.sameBits 10000 e.1 key then some (.tuple #[v, .int .i64 e.2.2], H.put k (.map (es.set i (key, e.2.1, e.2.2)) n)) else none
          | none => none
        | some none => some (.tuple #[z, .int .i64 n], H.put k (.map (es ++ [(key, z, n)]) (n + 1)))
        | none => none) else none
      | none => none
    | _, _, _ => none
  | _, _ => none
theorem VR.pairI {v v' : Value} (h : VR μ v v') (n : Int) : VR μ (.tuple #[v, .int .i64 n]) (.tuple #[v', .int .i64 n]) := by
  have := (LR.cons h (LR.cons (VR.int (μ := μ) .i64 n) (.nil μ))).toArray
  exact .tuple this.1 this.2
theorem amapEntry_ok (hE : E.Ok P) (hQ : Q.Ok P) (h : Rel μ H w0 w) {t : Nat} {m m' key key' r : Value} {H' : AH} (hm : VR μ m m') (hk : VR μ key key') (e : amapEntry E Q H t m key = some (r, H')) : GotV P (Instr.mapEntry t m' key') μ w0 w r H' := by
  unfold amapEntry at e
  split at e
  · rename_i kt el k hu
    split at e
    · rename_i d es n inf hkt hkk hinf
      split at e
      · rename_i z hz
        cases hb : (acheck E 40 kt key && cval 6 key && cval 6 z) with
        | false => rw [hb] at e; cases e
        | true =>
          rw [hb, cond_true] at e
          simp only [Bool.and_eq_true] at hb
          have hck : ∀ em, (Instr.checkKey em 10000 kt key').run P w = .ok () w := fun em => acheck_ok hE 40 kt key key' 10000 em (by decide) hk hb.1.1
          have hkeq := cval_eq 6 key key' hb.1.2 hk
          subst hkeq
          have hzr := cval_ok μ 6 z hb.2
          cases hm with
          | @map _ g s hmm =>
            obtain ⟨F, hF, hMR⟩ := h.mapR hkk hmm
            split at e
            · rename_i i u hf
              split at e
              · rename_i en hen
                cases hb2 : (cval 6 en.1 && Instr.sameBits 10000 en.1 key') with
                | false => rw [hb2] at e; cases e
                | true =>
                  rw [hb2, cond_true] at e
                  simp only [Option.some.injEq, Prod.mk.injEq] at e
                  obtain ⟨rfl, rfl⟩ := e
                  rw [Bool.and_eq_true] at hb2
                  obtain ⟨r', q1, q2⟩ := afind_ok hE hQ h hkt hk hMR hf
                  cases r' with
                  | none => exact q2.elim
                  | some r' =>
                    obtain ⟨j', u'⟩ := r'
                    obtain ⟨rfl, q3⟩ := q2
                    have hil : i < F.toList.length := by rw [hMR.1]; exact (List.getElem?_eq_some_iff.1 hen).1
                    have hFi : F[i]? = some F.toList[i] := by simp at hil; simp [hil]
                    have hent := hMR.2 i en _ hen (List.getElem?_eq_getElem hil)
                    have hke := cval_eq 6 en.1 _ hb2.1 hent.1
                    refine ⟨μ, .tuple #[u', .int .i64 en.2.2], World.over w g (.map (F.modify i fun e => { e with key := key' }) n), ?_, .refl μ, ?_, q3.pairI _⟩
                    · simp only [Instr.mapEntry, Sem.run_bind, run_und hE hu, Result.andThen_ok, run_getMap hF, hck, q1, Instr.keyThatStays, hFi, Option.map_some, Option.getD_some, hke, hb2.2, if_true, Sem.run_pure, run_setMap w hF, hent.2.2, goInt]
                    · refine h.over hkk rfl rfl hmm (MR.blk ?_)
                      rw [modify_set F i _ hFi]
                      exact hMR.set (e := (key', en.2.1, en.2.2)) (e' := { F.toList[i] with key := key' }) ⟨hk, hent.2.1, hent.2.2⟩ i
              · cases e
            · rename_i hf
              simp only [Option.some.injEq, Prod.mk.injEq] at e
              obtain ⟨rfl, rfl⟩ := e
              obtain ⟨r', q1, q2⟩ := afind_ok hE hQ h hkt hk hMR hf
              cases r' with
              | some r' => exact q2.elim
              | none =>
                refine ⟨μ, .tuple #[z, .int .i64 n], World.over w g (.map (F.push { key := key', val := z, born := n }) (n + 1)), ?_, .refl μ, ?_, hzr.pairI _⟩
                · simp only [Instr.mapEntry, Sem.run_bind, run_und hE hu, Result.andThen_ok, run_getMap hF, hck, q1, run_zero hE hinf hz, run_setMap w hF, Sem.run_pure, goInt]
                · refine h.over hkk rfl rfl hmm (MR.blk ?_)
                  rw [Array.toList_push]
                  exact hMR.push ⟨hk, hzr, rfl⟩
            · cases e
      · cases e
    · cases e
  · cases e
end
end AM
end Go.Proofs.YtdmbppgogdkpdaaGreatDoor
