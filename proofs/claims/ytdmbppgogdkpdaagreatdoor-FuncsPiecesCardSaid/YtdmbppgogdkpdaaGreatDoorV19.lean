/-
  The abstract machine's operations, twelfth part: entries by their stamps, iterators over texts, copies, the least and the greatest. No condition.
  The abstract machine: one operation, other than a call. No condition.
  The abstract machine: maps that are ranged over. No condition.
  The abstract machine: calls; the operations of a statement, one behind the other. No condition.
  The abstract machine: the operations of a statement in the order of the text. No condition.
-/
import Derived.Test.YtdmbppgogdkpdaaGreatDoorV15
import Derived.Laws.IdiomRangeMap
import Derived.RangeFuncLeaves
import Derived.OrdersIn
set_option linter.unusedSectionVars false
namespace Go.Proofs.YtdmbppgogdkpdaaGreatDoor
namespace AM
open Go.RowKit
variable [Toks]

section
variable {P : Program} {E : Env} {Q : Eqs} {μ : Mp} {H : AH} {w0 : Base} {w : World}
def aentryStore (H : AH) (m stamp v : Value) : Option AH := match m, stamp with
  | .map (some k), .int _ born => match H.t.get k with
    | some (.map es n) => match es.findIdx? (fun e => ((e.2.2 : Nat) : Int) == born) with
      | some i => match es[i]? with
        | some e => some (H.put k (.map (es.set i (e.1, v, e.2.2)) n))
        | none => none
      | none => none
    | _ => none
  | _, _ => none
theorem findIdx_MR {es : List (Value × Value × Nat)} {fs : List MapEntry} (h : MR μ es fs) (born : Int) : fs.findIdx? (fun e => ((e.born : Nat) : Int) == born) = es.findIdx? (fun e => ((e.2.2 : Nat) : Int) == born) := by
  induction es generalizing fs with
  | nil =>
    have : fs = [] := by have := h.1; simpa using this
    subst this; rfl
  | cons e es ih =>
    obtain ⟨f, gs, rfl, ⟨_, _, h3⟩, h4⟩ := h.inv
    rw [List.findIdx?_cons, List.findIdx?_cons, ih h4, h3]
theorem aentryStore_ok (h : Rel μ H w0 w) {t : Nat} {m m' s s' v v' : Value} {H' : AH} (hm : VR μ m m') (hs : VR μ s s') (hv : VR μ v v') (e : aentryStore H m s v = some H') :
    ∃ w', (Instr.entryStore t m' s' v').run P w = .ok () w' ∧ Rel μ H' w0 w' := by
  unfold aentryStore at e
  split at e
  · cases hs
    cases hm with
    | @map k g s hmm =>
      split at e
      · rename_i es n hk
        obtain ⟨F, hF, hMR⟩ := h.mapR hk hmm
        split at e
        · rename_i i hi
          split at e
          · rename_i en hen
            cases e
            have hfi := findIdx_MR hMR
            rw [← hfi] at hi
            have hfa : ∀ p : MapEntry → Bool, F.findIdx? p = F.toList.findIdx? p := fun p => by
              have := List.findIdx?_toArray p F.toList
              rwa [Array.toArray_toList] at this
            rw [← hfa] at hi
            have hil : i < F.toList.length := by rw [hMR.1]; exact (List.getElem?_eq_some_iff.1 hen).1
            have hFi : F[i]? = some F.toList[i] := by simp at hil; simp [hil]
            have hent := hMR.2 i en _ hen (List.getElem?_eq_getElem hil)
            refine ⟨World.over w g (.map (F.modify i fun e => { e with val := v' }) n), ?_, ?_⟩
            · simp only [Instr.entryStore, Sem.run_bind, run_getMap hF, Result.andThen_ok, asInt, asIntOf, Sem.run_pure, hi]
              exact run_setMap w hF _
            · refine h.over hk rfl rfl hmm (MR.blk ?_)
              rw [modify_set F i _ hFi]
              exact hMR.set (e := (en.1, v, en.2.2)) (e' := { F.toList[i] with val := v' }) ⟨hent.1, hv, hent.2.2⟩ i
          · cases e
        · cases e
      · cases e
  · cases e
/-- An iterator over a text. -/
def arangeS (E : Env) (H : AH) (t : Nat) : Value → Option (Value × AH)
  | .string s => match E.und t with
    | some .string => bif Nat.blt (H.next + 1) 1099511627776 then some (.pointer (some ⟨H.next, 0, none⟩), H.alloc (.siter s 0)) else none
    | _ => none
  | _ => none
theorem arangeS_ok (hE : E.Ok P) (h : Rel μ H w0 w) {t : Nat} {x x' r : Value} {H' : AH} (hx : VR μ x x') (e : arangeS E H t x = some (r, H')) : GotV P (Instr.range t x') μ w0 w r H' := by
  unfold arangeS at e
  split at e
  · rename_i s
    cases hx
    split at e
    · rename_i hu
      cases hb : Nat.blt (H.next + 1) 1099511627776 with
      | false => rw [hb] at e; cases e
      | true =>
        rw [hb] at e; cases e
        have b1 : H.next + 1 < 1099511627776 := Nat.le_of_ble_eq_true hb
        obtain ⟨ν, n1, n2, n3⟩ := h.alloc (by omega) (b := .siter s 0) (o := .stringIter s 0) (s := 0) rfl
        refine ⟨ν, .pointer (some ⟨w.heap.size, 0, none⟩), w.alloc (.stringIter s 0), ?_, n1, n3, .ptr 0 n2⟩
        simp only [Instr.range, Sem.run_bind, run_und hE hu, Result.andThen_ok, Sem.run_pure, newObj, Sem.run]
        rfl
    · cases e
  · cases e
theorem Rel.siter (h : Rel μ H w0 w) {k : Nat} {s : ByteArray} {p : Nat} (hk : H.t.get k = some (.siter s p)) {g z : Nat} (hm : μ k = some (g, z)) : w.heap[g]? = some (.stringIter s p) := by
  obtain ⟨g', s', e1, l1, _⟩ := h.lies k _ hk
  rw [hm] at e1; cases e1
  obtain ⟨o, ho, rfl⟩ := l1 rfl
  exact ho
def anextS (H : AH) : Value → Option (Value × AH)
  | .pointer (some ⟨k, 0, none⟩) => match H.t.get k with
    | some (.siter s p) => bif Nat.blt p s.size then
        some (.tuple #[.bool true, .int .i64 p, .int .i32 (Utf8.decode s p).1], H.put k (.siter s (p + (Utf8.decode s p).2)))
      else some (.tuple #[.bool false], H)
    | _ => none
  | _ => none
theorem anextS_ok (h : Rel μ H w0 w) {ty : Nat} {x x' r : Value} {H' : AH} (hx : VR μ x x') (e : anextS H x = some (r, H')) : GotV P (Instr.next x' true ty) μ w0 w r H' := by
  unfold anextS at e
  split at e
  · rename_i k
    cases hx with
    | @ptr _ g z _ hm =>
      split at e
      · rename_i s p hk
        have hg := h.siter hk hm
        have hgo : (getObj g).run P w = .ok (.stringIter s p) w := by simp only [getObj, Sem.run, hg]
        cases hb : Nat.blt p s.size with
        | true =>
          rw [hb, cond_true] at e
          cases e
          have hb : p < s.size := Nat.le_of_ble_eq_true hb
          refine ⟨μ, .tuple #[.bool true, .int .i64 p, .int .i32 (Utf8.decode s p).1], World.over w g (.stringIter s (p + (Utf8.decode s p).2)), ?_, .refl μ, h.over hk rfl rfl hm rfl, ?_⟩
          · have hso : (setObj g (.stringIter s (p + (Utf8.decode s p).2))).run P w = .ok () (World.over w g (.stringIter s (p + (Utf8.decode s p).2))) := by simp only [setObj, Sem.run, hg]; rfl
            simp only [Instr.next, Sem.run_bind, hgo, Result.andThen_ok, if_pos hb, hso, Sem.run_pure, goInt]
          · exact cval_ok μ 3 _ (by rfl)
        | false =>
          rw [hb, cond_false] at e
          cases e
          have hb : ¬ p < s.size := fun hlt => by
            have : Nat.blt p s.size = true := Nat.ble_eq_true_of_le hlt
            rw [this] at hb; cases hb
          refine .pure h (v' := .tuple #[.bool false]) ?_ (cval_ok μ 3 _ (by rfl))
          simp only [Instr.next, Sem.run_bind, hgo, Result.andThen_ok, if_neg hb, Sem.run_pure]
      · cases e
  · cases e
/-- The least, the greatest. -/
def allScalar (as : List Value) : Bool := as.all isScalar
theorem LR.scalars {l l' : List Value} (h : LR μ l l') (hs : allScalar l = true) : l' = l := by
  apply List.ext_getElem (by rw [h.1])
  intro i h1 h2
  exact (h.2 i _ _ (List.getElem?_eq_getElem h2) (List.getElem?_eq_getElem h1)).scalar (List.all_eq_true.1 hs _ (List.getElem_mem h2))
def aminmax (P : Program) (f : Array Value → Sem Value) (as : List Value) : Option Value := bif allScalar as then asc (pureRun P (f as.toArray)) else none
theorem aminmax_ok (h : Rel μ H w0 w) {f : Array Value → Sem Value} {as : List Value} {as' : Array Value} {r : Value} (ha : LR μ as as'.toList) (e : aminmax P f as = some r) : GotV P (f as') μ w0 w r H := by
  unfold aminmax at e
  cases hs : allScalar as with
  | false => rw [hs] at e; cases e
  | true =>
    rw [hs, cond_true] at e
    have := LR.scalars ha hs
    have e2 : as' = as.toArray := by apply Array.ext'; simpa using this
    rw [e2]
    exact asc_ok h e
/-- A copy. -/
def asrc (H : AH) (size dLen : Nat) : Value → Option (Nat × List Value)
  | .slice none m _ => bif Nat.beq m 0 then some (0, []) else none
  | .slice (some ⟨k, o, none⟩) m _ => match H.t.get k with
    | some (.cells c _ _ _) => bif Nat.ble (o + Nat.min m dLen * size) c.length then some (Nat.min m dLen, (c.drop o).take (Nat.min m dLen * size)) else none
    | _ => none
  | .string s => bif Nat.beq size 1 then some (Nat.min s.size dLen, (s.data.toList.take (Nat.min s.size dLen)).map fun b => .int .u8 b.toNat) else none
  | _ => none
theorem asrc_ok (h : Rel μ H w0 w) {size dLen n : Nat} {x x' : Value} {l : List Value} (hx : VR μ x x') (e : asrc H size dLen x = some (n, l)) :
    ∃ m arr, (Builtin.lenOf x').run P w = .ok m w ∧ Nat.min m dLen = n ∧ (Builtin.firstCells size n x').run P w = .ok arr w ∧ LR μ l arr.toList := by
  unfold asrc at e
  split at e
  · rename_i m c
    cases hb : Nat.beq m 0 with
    | false => rw [hb] at e; cases e
    | true =>
      rw [hb] at e; cases e
      have := Nat.eq_of_beq_eq_true hb
      subst this
      cases hx
      exact ⟨0, #[], rfl, Nat.zero_min _, rfl, .nil μ⟩
  · rename_i k o m c
    split at e
    · rename_i c' el x rw hk
      cases hb : Nat.ble (o + Nat.min m dLen * size) c'.length with
      | false => rw [hb] at e; cases e
      | true =>
        rw [hb, cond_true] at e; cases e
        have hb := Nat.le_of_ble_eq_true hb
        have key : ∀ g s, μ k = some (g, s) → ∃ arr, (loadCells ⟨g, o, none⟩ (Nat.min m dLen * size)).run P w = .ok arr w ∧ LR μ ((c'.drop o).take (Nat.min m dLen * size)) arr.toList := by
          intro g s hm
          obtain ⟨arr, r1, r2⟩ := h.loads (P := P) hk hm (Nat.min m dLen * size) 0 o #[] #[] (by simpa using hb) ⟨rfl, by simp⟩
          simp only [Nat.add_zero, Array.empty_append] at r2
          exact ⟨arr, r1, by have := AR.toList r2; simpa using this⟩
        cases hx with
        | sl _ _ _ hm hc => obtain ⟨arr, r1, r2⟩ := key _ _ hm; exact ⟨m, arr, rfl, rfl, r1, r2⟩
        | slx _ _ _ c2 ez hm a1 a2 a3 a4 a5 => obtain ⟨arr, r1, r2⟩ := key _ _ hm; exact ⟨m, arr, rfl, rfl, r1, r2⟩
    · cases e
  · rename_i s
    cases hb : Nat.beq size 1 with
    | false => rw [hb] at e; cases e
    | true =>
      rw [hb, cond_true] at e
      cases e
      cases hx
      refine ⟨s.size, (s.extract 0 (Nat.min s.size dLen)).data.map fun b => .int .u8 b.toNat, rfl, rfl, rfl, ?_⟩
      have hs : ((s.extract 0 (Nat.min s.size dLen)).data.map fun b => Value.int .u8 b.toNat).toList = (s.data.toList.take (Nat.min s.size dLen)).map fun b => .int .u8 b.toNat := by
        rw [Array.toList_map, ByteArray.data_extract, Array.toList_extract]
        simp [List.extract]
      rw [hs]
      refine ⟨rfl, fun i v v' h1 h2 => ?_⟩
      rw [h1] at h2; cases h2
      rw [List.getElem?_map] at h1
      cases hd : (s.data.toList.take (Nat.min s.size dLen))[i]? with
      | none => rw [hd] at h1; cases h1
      | some b => rw [hd] at h1; cases h1; exact .int _ _
  · cases e
def acopy (E : Env) (H : AH) (t : Nat) (d s : Value) : Option (Value × AH) := match E.und t, d with
  | some (.slice el), .slice base dLen _ => match E.info el with
    | some i => match asrc H i.size dLen s, base with
      | some (n, l), some ⟨k, o, none⟩ => match H.t.get k with
        | some (.cells c el2 ex true) => bif Nat.ble (o + l.length) c.length && l.all (·.oneCell') then some (.int .i64 n, H.put k (.cells (setRange c o l) el2 ex true)) else none
        | _ => none
      | some (n, []), none => some (.int .i64 n, H)
      | _, _ => none
    | none => none
  | _, _ => none
theorem acopy_ok (hE : E.Ok P) (h : Rel μ H w0 w) {t ts ty : Nat} {d d' s s' r : Value} {H' : AH} (hd : VR μ d d') (hs : VR μ s s') (e : acopy E H t d s = some (r, H')) : GotV P (Builtin.copy_ #[t, ts] ty #[d', s']) μ w0 w r H' := by
  unfold acopy at e
  split at e
  · rename_i el base dLen cap hu
    split at e
    · rename_i i hi
      split at e
      · rename_i n l k o hsrc
        obtain ⟨m, arr, r1, r2, r3, r4⟩ := asrc_ok (P := P) h hs hsrc
        split at e
        · rename_i c el2 ex hk
          cases hb : (Nat.ble (o + l.length) c.length && l.all (·.oneCell')) with
          | false => rw [hb] at e; cases e
          | true =>
            rw [hb, cond_true] at e
            cases e
            rw [Bool.and_eq_true] at hb
            have hle := Nat.le_of_ble_eq_true hb.1
            have key : ∀ g z cc, μ k = some (g, z) → GotV P (Builtin.copy_ #[t, ts] ty #[.slice (some ⟨g, o, none⟩) dLen cc, s']) μ w0 w (.int .i64 n) (H.put k (.cells (setRange c o l) el2 ex true)) := by
              intro g z cc hm
              obtain ⟨w', q1, q2⟩ := Rel.stores (P := P) hm l arr.toList H c w 0 o h hk r4 hb.2 (by omega)
              refine ⟨μ, .int .i64 n, w', ?_, .refl μ, by simpa using q2, .int _ _⟩
              simp [Builtin.copy_, run_und hE hu, run_size hE hi, r1, r2, r3, q1, goInt]
            cases hd with
            | sl _ _ _ hm hc => exact key _ _ _ hm
            | slx _ _ _ c2 ez hm a1 a2 a3 a4 a5 => exact key _ _ _ hm
        · cases e
      · rename_i n hsrc
        cases e
        obtain ⟨m, arr, r1, r2, r3, r4⟩ := asrc_ok (P := P) h hs hsrc
        cases hd
        refine .pure h (v' := .int .i64 n) ?_ (.int _ _)
        simp [Builtin.copy_, run_und hE hu, run_size hE hi, r1, r2, r3, goInt]
      · cases e
    · cases e
  · cases e
/-- What an interface holds. -/
def aassert (E : Env) (asserted : Nat) (ok : Bool) : Value → Option Value
  | .iface t v => match E.und asserted with
    | some (.interface want) => match E.info t with
      | some i => match Instr.missingMethod want i.methods with
        | none => some (bif ok then .tuple #[.iface t v, .bool true] else .iface t v)
        | some _ => none
      | none => none
    | some _ => bif Nat.beq t asserted then some (bif ok then .tuple #[v, .bool true] else v) else none
    | none => none
  | _ => none
theorem aassert_ok (hE : E.Ok P) (h : Rel μ H w0 w) {xt asserted : Nat} {ok : Bool} {x x' r : Value} (hx : VR μ x x') (e : aassert E asserted ok x = some r) : GotV P (Instr.typeAssert x' xt asserted ok) μ w0 w r H := by
  unfold aassert at e
  split at e
  · rename_i t v
    cases hx with
    | @iface _ _ v' hv =>
      split at e
      · rename_i want hu
        split at e
        · rename_i i hi
          split at e
          · rename_i hm
            cases e
            refine .pure h (v' := if ok then .tuple #[.iface t v', .bool true] else .iface t v') ?_ ?_
            · simp only [Instr.typeAssert, Sem.run_bind, run_und hE hu, Result.andThen_ok, run_info hE hi, hm, Sem.run_pure]
            · cases ok
              · exact .iface t hv
              · exact (VR.iface t hv).pair true
          · cases e
        · cases e
      · rename_i d hn hu
        cases hb : Nat.beq t asserted with
        | false => rw [hb] at e; cases e
        | true =>
          rw [hb, cond_true] at e
          cases e
          have := Nat.eq_of_beq_eq_true hb
          subst this
          refine .pure h (v' := if ok then .tuple #[v', .bool true] else v') ?_ ?_
          · simp only [Instr.typeAssert, Sem.run_bind, run_und hE hu, Result.andThen_ok]
            cases d <;> first | (exact (hn _ rfl).elim) | (simp only [if_true, Sem.run_pure])
          · cases ok
            · exact hv
            · exact hv.pair true
      · cases e
  · cases e
end
end AM
end Go.Proofs.YtdmbppgogdkpdaaGreatDoor
namespace Go.Proofs.YtdmbppgogdkpdaaGreatDoor
namespace AM
open Go.RowKit
variable [Toks]

section
variable {P : Program} {E : Env} {Q : Eqs} {μ : Mp} {H : AH} {w0 : Base} {w : World} {T : Nat → Option Value} {a : Act}
def aevals (T : Nat → Option Value) : List Operand → Option (List Value)
  | [] => some []
  | x :: xs => match aeval T x, aevals T xs with
    | some v, some l => some (v :: l)
    | _, _ => none
theorem aevals_ok (h : TR μ T a.tmps) : ∀ (xs : List Operand) (l : List Value), aevals T xs = some l → LR μ l (xs.map a.eval)
  | [], l, e => by cases e; exact .nil μ
  | x :: xs, l, e => by
    simp only [aevals] at e
    split at e
    · rename_i v m hv hm
      cases e
      exact .cons (aeval_ok h hv) (aevals_ok h xs m hm)
    · cases e
def aparts (T : Nat → Option Value) : List (Nat × Operand) → Option (List (Nat × Value))
  | [] => some []
  | (i, x) :: xs => match aeval T x, aparts T xs with
    | some v, some l => some ((i, v) :: l)
    | _, _ => none
theorem aparts_ok (h : TR μ T a.tmps) : ∀ (xs : List (Nat × Operand)) (l : List (Nat × Value)), aparts T xs = some l → PR μ l (xs.map fun (i, x) => (i, a.eval x))
  | [], l, e => by cases e; trivial
  | (i, x) :: xs, l, e => by
    simp only [aparts] at e
    split at e
    · rename_i v m hv hm
      cases e
      exact ⟨rfl, aeval_ok h hv, aparts_ok h xs m hm⟩
    · cases e
def aopt (T : Nat → Option Value) : Option Operand → Option (Option Value)
  | none => some none
  | some x => match aeval T x with
    | some v => some (some v)
    | none => none
theorem aopt_ok (h : TR μ T a.tmps) {x : Option Operand} {v : Option Value} (e : aopt T x = some v) : OR μ v (x.map a.eval) := by
  cases x with
  | none => cases e; trivial
  | some x =>
    simp only [aopt] at e
    split at e
    · rename_i u hu; cases e; exact aeval_ok h hu
    · cases e
def abuildSlice (E : Env) (H : AH) (t len : Nat) (ps : List (Nat × Value)) : Option (Value × AH) := match E.und t with
  | some (.slice el) => match E.info el with
    | some i => match i.zero with
      | some z =>
        let l := arep (bif Nat.beq (len * i.size) 0 then #[] else z.cells) (len * i.size)
        bif l.all (cval 6) && Nat.ble (len * i.size) 1048576 then (match afill (fun k => some (k * i.size, i.size)) l ps with
          | some r => arow H el r len len
          | none => none) else none
      | none => none
    | none => none
  | _ => none
theorem abuildSlice_ok (hE : E.Ok P) (h : Rel μ H w0 w) {t len : Nat} {ps : List (Nat × Value)} {ps' : Array (Nat × Value)} {v : Value} {H' : AH} (hp : PR μ ps ps'.toList) (e : abuildSlice E H t len ps = some (v, H')) : GotV P (Instr.buildSlice t len ps') μ w0 w v H' := by
  unfold abuildSlice at e
  split at e
  · rename_i el hu
    split at e
    · rename_i i hi
      split at e
      · rename_i z hz
        dsimp only at e
        cases hc : ((arep (bif Nat.beq (len * i.size) 0 then #[] else z.cells) (len * i.size)).all (cval 6) && Nat.ble (len * i.size) 1048576) with
        | false => rw [hc] at e; cases e
        | true =>
          rw [hc, cond_true] at e
          rw [Bool.and_eq_true] at hc
          have hle := Nat.le_of_ble_eq_true hc.2
          split at e
          · rename_i r hr
            obtain ⟨r', h1, h2⟩ := afill_ok (place' := fun k => some (k * i.size, i.size)) (fun k => rfl) ps ps'.toList _ r ((Array.range (len * i.size)).map ((bif Nat.beq (len * i.size) 0 then #[] else z.cells)[· % (bif Nat.beq (len * i.size) 0 then #[] else z.cells).size]!)) hp (by rw [arep_eq]; exact LR.refl_of hc.1) hr
            obtain ⟨ν, v', w', r1, r2⟩ := arow_ok (P := P) h h2 e
            refine ⟨ν, v', w', ?_, r2⟩
            rw [← r1]
            simp only [Instr.buildSlice, Sem.run_bind, run_und hE hu, run_size hE hi, Result.andThen_ok]
            rw [if_neg (by omega)]
            by_cases h0 : len * i.size = 0
            · rw [h0] at h1
              simp only [show Nat.beq 0 0 = true from rfl, cond_true] at h1
              rw [if_pos h0, h0]
              simp only [Sem.run_bind, Sem.run_pure, Result.andThen_ok, h1]
            · rw [beq_ne h0, cond_false] at h1
              rw [if_neg h0]
              simp only [Sem.run_bind, run_zero hE hi hz, Result.andThen_ok, Sem.run_pure, h1]
          · cases e
      · cases e
    · cases e
  · cases e
def optSc : Option Value → Bool
  | none => true
  | some v => isScalar v
theorem OR.scalar {x x' : Option Value} (h : OR μ x x') (hs : optSc x = true) : x' = x := by
  cases x with
  | none => cases x' with
    | none => rfl
    | some _ => exact h.elim
  | some v => cases x' with
    | none => exact h.elim
    | some u => rw [VR.scalar h hs]
def pairH (H : AH) (r : Option Value) : Option (Value × AH) := match r with
  | some v => some (v, H)
  | none => none
def pairU (r : Option AH) : Option (Value × AH) := match r with
  | some H => some (undef, H)
  | none => none
def aop (P : Program) (E : Env) (Q : Eqs) (T : Nat → Option Value) (H : AH) : Op → Option (Value × AH)
  | .move x | .assign x => pairH H (aeval T x)
  | .pick c x y => match aeval T c with
    | some (.bool t) => pairH H (bif t then aeval T x else aeval T y)
    | _ => none
  | .alloc e => match E.info e with
    | some i => match i.zero with
      | some z => bif z.cells.toList.all (cval 6) then anew H e z.cells.toList else none
      | none => none
    | none => none
  | .box e x => match aeval T x with
    | some v => anew H e v.cells.toList
    | none => none
  | .build t ps => match aparts T ps.toList with
    | some l => pairH H (abuild E t l)
    | none => none
  | .buildSlice t n ps => match aparts T ps.toList with
    | some l => abuildSlice E H t n l
    | none => none
  | .load t x => match aeval T x with
    | some v => pairH H (aload E H t v)
    | none => none
  | .store t x y => match aeval T x, aeval T y with
    | some v, some u => pairU (astore E H t u v)
    | _, _ => none
  | .nilCheck x => match aeval T x with
    | some v => pairH H (anilCheck v)
    | none => none
  | .binOp op t x y _ => match aeval T x, aeval T y with
    | some v, some u => pairH H (abin P E Q H op t (isConstB x) (isConstB y) v u)
    | _, _ => none
  | .unOp op _ x => match aeval T x with
    | some v => pairH H (aun P op v)
    | none => none
  | .convert s d x => match aeval T x with
    | some v => aconvP P E H s d v
    | none => none
  | .makeInterface t x => match aeval T x, E.und t with
    | some v, some d => match d with
      | .interface _ => none
      | _ => some (.iface t v, H)
    | _, _ => none
  | .makeFunc (.func f) xs ys => match aevals T xs.toList, aevals T ys.toList with
    | some l, some m => some (.func (.func f) l.toArray m.toArray, H)
    | _, _ => none
  | .makeMap t r => match aopt T r with
    | some none => amakeMap H
    | some (some (.int _ _)) => match E.und t with
      | some (.map _ _) => amakeMap H
      | _ => none
    | _ => none
  | .makeSlice t x y => match aeval T x, aeval T y with
    | some v, some u => amakeSlice E H t v u
    | _, _ => none
  | .slice t x lo hi mx => match aeval T x, aopt T lo, aopt T hi, aopt T mx with
    | some v, some l, some h, some m => pairH H (bif isScalar v then (bif optSc l && optSc h && optSc m then asc (pureRun P (Instr.sliceAt t v l h m)) else none) else aslice E t v l h m)
    | _, _, _, _ => none
  | .fieldAddr s x f => match aeval T x with
    | some v => pairH H (afieldAddr E s f v)
    | none => none
  | .field s x f => match aeval T x with
    | some v => pairH H (afield E s f v)
    | none => none
  | .indexAddr t x i => match aeval T x, aeval T i with
    | some v, some u => pairH H (aindexAddr E t v u)
    | _, _ => none
  | .index t x i => match aeval T x, aeval T i with
    | some v, some u => pairH H (aindex E t v u)
    | _, _ => none
  | .lookup t x i ok => match aeval T x, aeval T i with
    | some v, some u => pairH H (alookup E Q H t v u ok)
    | _, _ => none
  | .mapUpdate t m k x | .insert t m k x => match aeval T m, aeval T k, aeval T x with
    | some v, some u, some y => pairU (amapUpdate E Q H t v u y)
    | _, _, _ => none
  | .mapEntry t m k => match aeval T m, aeval T k with
    | some v, some u => amapEntry E Q H t v u
    | _, _ => none
  | .entryStore _ m s x => match aeval T m, aeval T s, aeval T x with
    | some v, some u, some y => pairU (aentryStore H v u y)
    | _, _, _ => none
  | .range t x => match aeval T x with
    | some v => arangeS E H t v
    | none => none
  | .next x true => match aeval T x with
    | some v => anextS H v
    | none => none
  | .extract x i => match aeval T x with
    | some v => pairH H (aextract i v)
    | none => none
  | .typeAssert x _ as ok => match aeval T x with
    | some v => pairH H (aassert E as ok v)
    | none => none
  | _ => none
theorem pairH_some {r : Option Value} {v : Value} {K : AH} (e : pairH H r = some (v, K)) : r = some v ∧ K = H := by
  unfold pairH at e
  split at e
  · cases e; exact ⟨rfl, rfl⟩
  · cases e
theorem pairU_some {r : Option AH} {v : Value} {K : AH} (e : pairU r = some (v, K)) : r = some K ∧ v = undef := by
  unfold pairU at e
  split at e
  · cases e; exact ⟨rfl, rfl⟩
  · cases e
theorem Got.unit {s : Sem Unit} {H' : AH} (h : ∃ w', s.run P w = .ok () w' ∧ Rel μ H' w0 w') : Got P (do s; pure .skip) μ w0 w undef H' := by
  obtain ⟨w', h1, h2⟩ := h
  exact ⟨μ, .skip, undef, w', by simp [h1], .inr ⟨rfl, rfl⟩, .refl μ, h2, cval_ok μ 3 undef rfl⟩
theorem Got.now (h : Rel μ H w0 w) {v v' : Value} (hv : VR μ v v') : Got P (pure (.value v')) μ w0 w v H := ⟨μ, _, v', w, rfl, .inl rfl, .refl μ, h, hv⟩
theorem PR.map {l : List (Nat × Value)} {ps : Array (Nat × Operand)} (h : PR μ l (ps.toList.map fun (i, x) => (i, a.eval x))) : PR μ l (ps.map fun (i, x) => (i, a.eval x)).toList := by
  rw [Array.toList_map]; exact h
theorem LR.map {l : List Value} {ps : Array Operand} (h : LR μ l (ps.toList.map a.eval)) : LR μ l (ps.map a.eval).toList := by
  rw [Array.toList_map]; exact h
theorem aop_ok (hE : E.Ok P) (hQ : Q.Ok P) (h : Rel μ H w0 w) (ht : TR μ T a.tmps) {o : Oper} {v : Value} {H' : AH} (e : aop P E Q T H o.op = some (v, H')) : Got P (execOp a.eval o) μ w0 w v H' := by
  have ev := fun {x : Operand} {v : Value} (e : aeval T x = some v) => aeval_ok ht e
  unfold execOp
  cases ho : o.op <;> rw [ho] at e <;> simp only [aop] at e <;> dsimp only
  case move x =>
    obtain ⟨h1, rfl⟩ := pairH_some e
    exact .now h (ev h1)
  case assign x =>
    obtain ⟨h1, rfl⟩ := pairH_some e
    exact .now h (ev h1)
  case pick c x y =>
    split at e
    · rename_i t hc
      obtain ⟨h1, rfl⟩ := pairH_some e
      have hb := ev hc
      generalize a.eval c = cv at hb
      cases hb
      cases t with
      | true => exact ⟨μ, .value (a.eval x), a.eval x, w, by simp [asBool], .inl rfl, .refl μ, h, ev h1⟩
      | false => exact ⟨μ, .value (a.eval y), a.eval y, w, by simp [asBool], .inl rfl, .refl μ, h, ev h1⟩
    · cases e
  case alloc t =>
    split at e
    · rename_i i hi
      split at e
      · rename_i z hz
        cases hb : z.cells.toList.all (cval 6) with
        | false => rw [hb] at e; cases e
        | true =>
          rw [hb, cond_true] at e
          have := anew_ok (P := P) h (c' := z.cells) (LR.refl_of hb) e
          apply GotV.val
          obtain ⟨ν, v', w', r1, r2⟩ := this
          refine ⟨ν, v', w', ?_, r2⟩
          rw [← r1]
          simp only [Instr.alloc, Sem.run_bind, run_zero hE hi hz, Result.andThen_ok, newVar]
      · cases e
    · cases e
  case box t x =>
    split at e
    · rename_i u hu
      have := anew_ok (P := P) h (c' := (a.eval x).cells) (ev hu).cells e
      exact GotV.val this
    · cases e
  case build t ps =>
    split at e
    · rename_i l hl
      obtain ⟨h1, rfl⟩ := pairH_some e
      exact (abuild_ok hE h (aparts_ok ht _ l hl).map h1).val
    · cases e
  case buildSlice t n ps =>
    split at e
    · rename_i l hl
      exact (abuildSlice_ok hE h (aparts_ok ht _ l hl).map e).val
    · cases e
  case insert t m k x =>
    split at e
    · rename_i v1 v2 v3 h1 h2 h3
      obtain ⟨h4, rfl⟩ := pairU_some e
      exact .unit (amapUpdate_ok hE hQ h (ev h1) (ev h2) (ev h3) h4)
    · cases e
  case load t x =>
    split at e
    · rename_i u hu
      obtain ⟨h1, rfl⟩ := pairH_some e
      exact (aload_ok hE h (ev hu) h1).val
    · cases e
  case store t x y =>
    split at e
    · rename_i v1 v2 h1 h2
      obtain ⟨h4, rfl⟩ := pairU_some e
      exact .unit (astore_ok hE h (ev h1) (ev h2) h4)
    · cases e
  case nilCheck x =>
    split at e
    · rename_i u hu
      obtain ⟨h1, rfl⟩ := pairH_some e
      have hv := ev hu
      generalize a.eval x = av at hv
      unfold anilCheck at h1
      split at h1
      · cases h1; cases hv with
        | ptr o hm => exact .now h (.ptr o hm)
      · cases h1; cases hv with
        | func _ h1 h2 h3 h4 => exact .now h (.func _ h1 h2 h3 h4)
      · cases h1; cases hv with
        | iface _ hv => exact .now h (.iface _ hv)
      · cases h1
    · cases e
  case binOp op t x y ty =>
    split at e
    · rename_i v1 v2 h1 h2
      obtain ⟨h4, rfl⟩ := pairH_some e
      exact (abin_ok hE hQ h (ev h1) (ev h2) h4).val
    · cases e
  case unOp op t x =>
    split at e
    · rename_i u hu
      obtain ⟨h1, rfl⟩ := pairH_some e
      exact (aun_ok h (ev hu) h1).val
    · cases e
  case convert s d x =>
    split at e
    · rename_i u hu
      exact (aconvP_ok hE h (ev hu) e).val
    · cases e
  case makeInterface t x =>
    split at e
    · rename_i u d hu hd
      have hgo : (∀ ms, d ≠ .interface ms) → v = .iface t u ∧ H' = H → Got P (do pure (.value (← Instr.makeInterface t (a.eval x)))) μ w0 w v H' := by
        rintro hn ⟨rfl, rfl⟩
        refine GotV.val (.pure h (v' := .iface t (a.eval x)) ?_ (.iface t (ev hu)))
        simp only [Instr.makeInterface, Sem.run_bind, run_und hE hd, Result.andThen_ok, Sem.run_pure]
      split at e
      · cases e
      · rename_i hn
        cases e
        exact hgo (fun ms hm => hn ms hm) ⟨rfl, rfl⟩
    · cases e
  case makeFunc fn xs ys =>
    cases fn with
    | func f =>
      simp only at e
      split at e
      · rename_i l m hl hm
        cases e
        have r1 := LR.map (aevals_ok ht _ l hl)
        have r2 := LR.map (aevals_ok ht _ m hm)
        exact GotV.val (.pure h (v' := .func (.func f) (xs.map a.eval) (ys.map a.eval)) rfl (.func f (AR.of_list r1).1 (AR.of_list r1).2 (AR.of_list r2).1 (AR.of_list r2).2))
      · cases e
    | _ => cases e
  case makeMap t r =>
    split at e
    · rename_i hr
      have := aopt_ok ht hr
      cases r with
      | none => exact (amakeMap_ok hE h (t := t) (.inl rfl) e).val
      | some x => exact this.elim
    · rename_i k n hr
      have hr2 := aopt_ok ht hr
      cases r with
      | none => exact hr2.elim
      | some x =>
        split at e
        · rename_i ka kb hu
          simp only [OR, Option.map_some] at hr2
          have hx : a.eval x = .int k n := by generalize a.eval x = av at hr2; cases hr2; rfl
          refine GotV.val (amakeMap_ok hE h (t := t) (.inr ⟨k, n, _, by simp [hx], hu, _, _, rfl⟩) e)
        · cases e
    · cases e
  case makeSlice t x y =>
    split at e
    · rename_i v1 v2 h1 h2
      exact (amakeSlice_ok hE h (ev h1) (ev h2) e).val
    · cases e
  case slice t x lo hi mx =>
    split at e
    · rename_i u l h' m hu hl hh hm
      obtain ⟨h1, rfl⟩ := pairH_some e
      cases hs : isScalar u with
      | true =>
        rw [hs, cond_true] at h1
        cases hb : (optSc l && optSc h' && optSc m) with
        | false => rw [hb] at h1; cases h1
        | true =>
          rw [hb, cond_true] at h1
          simp only [Bool.and_eq_true] at hb
          rw [(ev hu).scalar hs, OR.scalar (aopt_ok ht hl) hb.1.1, OR.scalar (aopt_ok ht hh) hb.1.2, OR.scalar (aopt_ok ht hm) hb.2]
          exact (asc_ok h h1).val
      | false =>
        rw [hs, cond_false] at h1
        exact (aslice_ok hE h (ev hu) (aopt_ok ht hl) (aopt_ok ht hh) (aopt_ok ht hm) h1).val
    · cases e
  case fieldAddr s x f =>
    split at e
    · rename_i u hu
      obtain ⟨h1, rfl⟩ := pairH_some e
      exact (afieldAddr_ok hE h (ev hu) h1).val
    · cases e
  case field s x f =>
    split at e
    · rename_i u hu
      obtain ⟨h1, rfl⟩ := pairH_some e
      exact (afield_ok hE h (ev hu) h1).val
    · cases e
  case indexAddr t x i =>
    split at e
    · rename_i v1 v2 h1 h2
      obtain ⟨h4, rfl⟩ := pairH_some e
      exact (aindexAddr_ok hE h (ev h1) (ev h2) h4).val
    · cases e
  case index t x i =>
    split at e
    · rename_i v1 v2 h1 h2
      obtain ⟨h4, rfl⟩ := pairH_some e
      exact (aindex_ok hE h (ev h1) (ev h2) h4).val
    · cases e
  case lookup t x i ok =>
    split at e
    · rename_i v1 v2 h1 h2
      obtain ⟨h4, rfl⟩ := pairH_some e
      exact (alookup_ok hE hQ h (ev h1) (ev h2) h4).val
    · cases e
  case mapUpdate t m k x =>
    split at e
    · rename_i v1 v2 v3 h1 h2 h3
      obtain ⟨h4, rfl⟩ := pairU_some e
      exact .unit (amapUpdate_ok hE hQ h (ev h1) (ev h2) (ev h3) h4)
    · cases e
  case mapEntry t m k =>
    split at e
    · rename_i v1 v2 h1 h2
      exact (amapEntry_ok hE hQ h (ev h1) (ev h2) e).val
    · cases e
  case entryStore t m s x =>
    split at e
    · rename_i v1 v2 v3 h1 h2 h3
      obtain ⟨h4, rfl⟩ := pairU_some e
      exact .unit (aentryStore_ok h (ev h1) (ev h2) (ev h3) h4)
    · cases e
  case range t x =>
    split at e
    · rename_i u hu
      exact (arangeS_ok hE h (ev hu) e).val
    · cases e
  case next x s =>
    cases s with
    | true =>
      simp only at e
      split at e
      · rename_i u hu
        exact (anextS_ok h (ev hu) e).val
      · cases e
    | false => cases e
  case typeAssert x xt as ok =>
    split at e
    · rename_i u hu
      obtain ⟨h1, rfl⟩ := pairH_some e
      exact (aassert_ok hE h (ev hu) h1).val
    · cases e
  case extract x i =>
    split at e
    · rename_i u hu
      obtain ⟨h1, rfl⟩ := pairH_some e
      exact (aextract_ok h (ev hu) h1).val
    · cases e
  all_goals cases e
end
end AM
end Go.Proofs.YtdmbppgogdkpdaaGreatDoor
namespace Go.Proofs.YtdmbppgogdkpdaaGreatDoor
namespace AM
open Go.RowKit
variable [Toks]

section
variable {P : Program} {E : Env} {μ : Mp} {H : AH} {w0 : Base} {w : World}
def mapIn (H : AH) (m : Nat) : Option (List (Value × Value × Nat) × Nat) := match H.t.get m with
  | some (.map es n) => some (es, n)
  | some (.rmap es n) => some (es, n)
  | _ => none
theorem Rel.mapIn (h : Rel μ H w0 w) {k : Nat} {es : List (Value × Value × Nat)} {n : Nat} (hk : mapIn H k = some (es, n)) {g s : Nat} (hm : μ k = some (g, s)) : ∃ F : Array MapEntry, w.heap[g]? = some (.map F n) ∧ MR μ es F.toList := by
  unfold Proofs.YtdmbppgogdkpdaaGreatDoor.AM.mapIn at hk
  split at hk
  · rename_i es' n' hb
    cases hk
    exact h.mapR hb hm
  · rename_i es' n' hb
    cases hk
    obtain ⟨g', s', e1, l1, _⟩ := h.lies k _ hb
    rw [hm] at e1; cases e1
    obtain ⟨o, ho, F, rfl, h2, h3⟩ := l1 rfl
    exact ⟨F, ho, by simpa using h2, fun i e e' h4 h5 => h3 i e e' h4 (by simpa using h5)⟩
  · cases hk
def amrange (E : Env) (H : AH) (t : Nat) (m : Option Nat) : Option (Value × AH) := match E.und t with
  | some (.map _ _) => bif Nat.blt (H.next + 1) 1099511627776 then (match m with
    | none => some (.pointer (some ⟨H.next, 0, none⟩), H.alloc (.miter none 0 [] 0))
    | some m => match mapIn H m with
      | some (_, n) => some (.pointer (some ⟨H.next, 0, none⟩), H.alloc (.miter (some m) n [] n))
      | none => none) else none
  | _ => none
theorem amrange_ok (hE : E.Ok P) (h : Rel μ H w0 w) {t : Nat} {m : Option Nat} {x' r : Value} {H' : AH} (hx : VR μ (.map m) x') (e : amrange E H t m = some (r, H')) : GotV P (Instr.range t x') μ w0 w r H' := by
  unfold amrange at e
  split at e
  · rename_i ka kb hu
    cases hb : Nat.blt (H.next + 1) 1099511627776 with
    | false => rw [hb] at e; cases e
    | true =>
      rw [hb, cond_true] at e
      have b1 : H.next + 1 < 1099511627776 := Nat.le_of_ble_eq_true hb
      split at e
      · cases e
        cases hx
        obtain ⟨ν, n1, n2, n3⟩ := h.alloc (by omega) (b := .miter none 0 [] 0) (o := .mapIter none 0 #[] 0) (s := 0) rfl
        exact ⟨ν, .pointer (some ⟨w.heap.size, 0, none⟩), _, run_range_nilMap w t _ _ (hE.und _ _ hu), n1, n3, .ptr 0 n2⟩
      · rename_i m
        split at e
        · rename_i es n hm
          cases e
          cases hx with
          | @map _ g s hg =>
            obtain ⟨F, hF, _⟩ := h.mapIn hm hg
            obtain ⟨ν, n1, n2, n3⟩ := h.alloc (by omega) (b := .miter (some m) n [] n) (o := .mapIter (some g) n #[] n) (s := 0) ⟨g, s, hg, rfl⟩
            exact ⟨ν, .pointer (some ⟨w.heap.size, 0, none⟩), _, run_range_map w t _ _ g F n (hE.und _ _ hu) hF, n1, n3, .ptr 0 n2⟩
        · cases e
  · cases e
theorem run_next_at (w : World) (ty : TypeId) (r bm since c0 : Nat) (seen : Array Nat) (es : Array MapEntry) (clock : Nat) (hr : w.heap[r]? = some (.mapIter (some bm) since seen c0)) (hb : w.heap[bm]? = some (.map es clock)) (hold : ∀ x ∈ es.toList, x.born < since) (hsc : since ≤ c0) :
    ((leftOf es seen).size = 0 ∧ (Instr.next (.pointer (some ⟨r, 0, none⟩)) false ty).run P w = .ok (.tuple #[.bool false]) w) ∨
    ∃ e ∈ (leftOf es seen).toList, ∃ w1 : World, (w1 = w ∨ w1 = w.drew) ∧ (Instr.next (.pointer (some ⟨r, 0, none⟩)) false ty).run P w = .ok (.tuple #[.bool true, e.key, e.val]) (World.over w1 r (.mapIter (some bm) since (seen.push e.born) clock)) := by
  simp only [Instr.next, getObj, Sem.run_bind, Sem.run, hr, hb, Result.andThen, next_test_false seen es since c0 hold hsc, Bool.false_eq_true, if_false]
  unfold leftOf
  have hmem : ∀ x ∈ (Array.filter (fun e => !seen.contains e.born) es).toList, x.born < since := fun x hx => hold x (by simp at hx ⊢; exact hx.1)
  generalize Array.filter (fun e => !seen.contains e.born) es = L at hmem ⊢
  have e1 : L.filter (fun x => decide (x.born < since)) = L := Array.filter_eq_self.2 (fun x hx => by simpa using hmem x (by simpa using hx))
  have e2 : L.filter (fun x => decide (x.born ≥ since)) = #[] := by
    rw [Array.filter_eq_empty_iff]
    intro x hx
    have := hmem x (by simpa using hx)
    simp
    omega
  simp only [e1, e2, Array.append_empty]
  by_cases h0 : L.size = 0
  · left
    have : L = #[] := Array.eq_empty_of_size_eq_zero h0
    subst this
    refine ⟨rfl, ?_⟩
    simp [choose, Sem.run, Question.forced]
  · right
    have hne : L.isEmpty = false := by simp [Array.isEmpty, h0]
    simp only [hne, Bool.false_eq_true, if_false, Array.empty_append, Array.size_map]
    have hch : ∃ (j : Nat) (w1 : World), j < L.size ∧ (w1 = w ∨ w1 = w.drew) ∧ (choose (Question.mapNext L.size)).run P w = .ok j w1 := by
      by_cases hf : L.size ≤ 1
      · exact ⟨0, w, by omega, .inl rfl, by simp [choose, Sem.run, Question.forced, hf]⟩
      · exact ⟨_, w.drew, Nat.mod_lt _ (by omega), .inr rfl, by
          simp only [choose, Sem.run, Question.forced, decide_eq_true_eq, hf, if_false, Question.cut]
          rfl⟩
    obtain ⟨j, w1, hj, hal, hrun⟩ := hch
    refine ⟨L[j], by simp, w1, hal, ?_⟩
    have hr1 : w1.heap[r]? = some (.mapIter (some bm) since seen c0) := by rcases hal with rfl | rfl <;> exact hr
    have hset : ∀ (o' : Obj), (setObj r o').run P w1 = .ok () (World.over w1 r o') := fun o' => by simp only [setObj, Sem.run, hr1]; rfl
    simp only [hrun, Array.getElem?_map, Array.getElem?_eq_getElem hj, Option.map_some, Sem.run_bind, hset, Result.andThen]
    rfl
def leftA (es : List (Value × Value × Nat)) (seen : List Nat) : List (Value × Value × Nat) := es.filter fun e => !seen.any (Nat.beq e.2.2)
def amnext (H : AH) : Value → Option (List (Value × AH))
  | .pointer (some ⟨k, 0, none⟩) => match H.t.get k with
    | some (.miter none _ _ _) => some [(.tuple #[.bool false], H)]
    | some (.miter (some m) since seen st) => match mapIn H m with
      | some (es, n) => bif es.all (fun e => Nat.blt e.2.2 since) && Nat.ble since st then
          (bif (leftA es seen).isEmpty then some [(.tuple #[.bool false], H)] else
            some ((leftA es seen).map fun e => (.tuple #[.bool true, e.1, e.2.1], H.put k (.miter (some m) since (seen ++ [e.2.2]) n)))) else none
      | none => none
    | _ => none
  | _ => none
theorem mem_left {es : List (Value × Value × Nat)} {F : Array MapEntry} (hM : MR μ es F.toList) {seen : List Nat} {f : MapEntry} (hf : f ∈ (leftOf F seen.toArray).toList) : ∃ e ∈ leftA es seen, VR μ e.1 f.key ∧ VR μ e.2.1 f.val ∧ f.born = e.2.2 := by
  unfold leftOf at hf
  rw [Array.toList_filter, List.mem_filter] at hf
  obtain ⟨h1, h2⟩ := hf
  obtain ⟨i, hi, hfi⟩ := List.getElem_of_mem h1
  have hi' : i < es.length := by rw [← hM.1]; exact hi
  have h3 := hM.2 i es[i] f (List.getElem?_eq_getElem hi') (by rw [List.getElem?_eq_getElem hi, hfi])
  refine ⟨es[i], List.mem_filter.2 ⟨List.getElem_mem hi', ?_⟩, h3⟩
  rw [h3.2.2] at h2
  rw [Bool.not_eq_true'] at h2 ⊢
  rw [List.any_eq_false]
  intro x hx hb
  have := Nat.eq_of_beq_eq_true hb
  subst this
  simp at h2
  exact h2 hx
theorem left_mem {es : List (Value × Value × Nat)} {F : Array MapEntry} (hM : MR μ es F.toList) {seen : List Nat} {e : Value × Value × Nat} (he : e ∈ leftA es seen) : (leftOf F seen.toArray).size ≠ 0 := by
  unfold leftA at he
  obtain ⟨h1, h2⟩ := List.mem_filter.1 he
  obtain ⟨i, hi, hei⟩ := List.getElem_of_mem h1
  have hi' : i < F.toList.length := by rw [hM.1]; exact hi
  have h3 := hM.2 i e F.toList[i] (by rw [List.getElem?_eq_getElem hi, hei]) (List.getElem?_eq_getElem hi')
  intro h0
  have h4 : F.toList[i] ∈ (leftOf F seen.toArray).toList := by
    unfold leftOf
    rw [Array.toList_filter, List.mem_filter]
    refine ⟨List.getElem_mem hi', ?_⟩
    rw [h3.2.2]
    rw [Bool.not_eq_true'] at h2 ⊢
    rw [List.any_eq_false] at h2
    rw [Bool.eq_false_iff]
    intro hc
    have hc2 : e.2.2 ∈ seen := by simpa using hc
    exact h2 _ hc2 (Nat.beq_refl _)
  have h5 : (leftOf F seen.toArray) = #[] := Array.eq_empty_of_size_eq_zero h0
  rw [h5] at h4
  simp at h4
theorem amnext_ok (h : Rel μ H w0 w) {ty : Nat} {x x' : Value} {outs : List (Value × AH)} (hx : VR μ x x') (e : amnext H x = some outs) : ∃ p ∈ outs, GotV P (Instr.next x' false ty) μ w0 w p.1 p.2 := by
  unfold amnext at e
  split at e
  · rename_i k
    cases hx with
    | @ptr _ g z _ hm =>
      split at e
      · rename_i since seen st hk
        cases e
        obtain ⟨g', s', e1, l1, _⟩ := h.lies k _ hk
        rw [hm] at e1; cases e1
        obtain ⟨o, ho, rfl⟩ := l1 rfl
        refine ⟨(.tuple #[.bool false], H), by simp, .pure h (v' := .tuple #[.bool false]) ?_ (cval_ok μ 3 _ (by rfl))⟩
        simp only [Instr.next, getObj, Sem.run_bind, Sem.run, ho, Result.andThen]
        rfl
      · rename_i m since seen st hk
        split at e
        · rename_i es n hmap
          cases hb : (es.all (fun e => Nat.blt e.2.2 since) && Nat.ble since st) with
          | false => rw [hb] at e; cases e
          | true =>
            rw [hb, cond_true] at e
            rw [Bool.and_eq_true] at hb
            obtain ⟨g', s', e1, l1, _⟩ := h.lies k _ hk
            rw [hm] at e1; cases e1
            obtain ⟨o, ho, gm, zm, hgm, rfl⟩ := l1 rfl
            obtain ⟨F, hF, hM⟩ := h.mapIn hmap hgm
            have hold : ∀ x ∈ F.toList, x.born < since := fun x hx => by
              obtain ⟨i, hi, hxi⟩ := List.getElem_of_mem hx
              have hi' : i < es.length := by rw [← hM.1]; exact hi
              have h3 := hM.2 i es[i] x (List.getElem?_eq_getElem hi') (by rw [List.getElem?_eq_getElem hi, hxi])
              rw [h3.2.2]
              exact Nat.le_of_ble_eq_true (List.all_eq_true.1 hb.1 es[i] (List.getElem_mem hi'))
            rcases run_next_at (P := P) w ty g gm since st seen.toArray F n ho hF hold (Nat.le_of_ble_eq_true hb.2) with ⟨h1, h2⟩ | ⟨f, h1, w1, h2, h3⟩
            · cases hl : (leftA es seen).isEmpty with
              | true =>
                rw [hl, cond_true] at e
                cases e
                exact ⟨(.tuple #[.bool false], H), by simp, .pure h h2 (cval_ok μ 3 _ (by rfl))⟩
              | false =>
                cases hl2 : leftA es seen with
                | nil => rw [hl2] at hl; cases hl
                | cons x xs => exact absurd h1 (left_mem hM (e := x) (by rw [hl2]; simp))
            · obtain ⟨en, he1, he2, he3, he4⟩ := mem_left hM h1
              cases hl : (leftA es seen).isEmpty with
              | true => rw [List.isEmpty_iff.1 hl] at he1; simp at he1
              | false =>
                rw [hl, cond_false] at e
                cases e
                refine ⟨_, List.mem_map.2 ⟨en, he1, rfl⟩, μ, .tuple #[.bool true, f.key, f.val], _, h3, .refl μ, ?_, ?_⟩
                · have hrel : Rel μ H w0 w1 := by rcases h2 with rfl | rfl; exact h; exact h.drew
                  refine hrel.over hk rfl rfl hm ⟨gm, zm, hgm, ?_⟩
                  rw [he4]
                  congr 1
                  simp
                · have hl3 : LR μ [.bool true, en.1, en.2.1] [.bool true, f.key, f.val] := .cons (.bool true) (.cons he2 (.cons he3 (.nil μ)))
                  exact .tuple hl3.toArray.1 hl3.toArray.2
        · cases e
      · cases e
  · cases e
def lastN : List Nat → Option Nat
  | [] => none
  | [x] => some x
  | _ :: l => lastN l
def amentry (H : AH) : Value → Option Value
  | .pointer (some ⟨k, 0, none⟩) => match H.t.get k with
    | some (.miter (some m) _ seen st) => match mapIn H m, lastN seen with
      | some (es, n), some b => bif Nat.beq n st then (match es.find? (fun e => Nat.beq e.2.2 b) with
        | some e => some (.tuple #[e.1, e.2.1])
        | none => none) else none
      | _, _ => none
    | _ => none
  | _ => none
theorem lastN_back : ∀ l : List Nat, l.toArray.back? = lastN l
  | [] => rfl
  | [x] => rfl
  | x :: y :: l => by
    rw [lastN, ← lastN_back (y :: l)]
    · simp [Array.back?]
    · intro h; cases h
theorem find_entry : ∀ {es : List (Value × Value × Nat)} {fs : List MapEntry}, MR μ es fs → ∀ {b : Nat} {e : Value × Value × Nat}, es.find? (fun e => Nat.beq e.2.2 b) = some e → ∃ f, fs.find? (·.born == b) = some f ∧ VR μ e.1 f.key ∧ VR μ e.2.1 f.val
  | [], fs, h, b, e, he => by cases he
  | x :: es, fs, h, b, e, he => by
    obtain ⟨f, gs, rfl, h1, h2⟩ := h.inv
    rw [List.find?_cons] at he ⊢
    split at he
    · rename_i hb
      cases he
      have : (f.born == b) = true := by rw [h1.2.2, Nat.eq_of_beq_eq_true hb]; simp
      rw [this]
      exact ⟨f, rfl, h1.1, h1.2.1⟩
    · rename_i hb
      have : (f.born == b) = false := by
        rw [h1.2.2, beq_eq_false_iff_ne]
        intro hc
        rw [hc, show Nat.beq b b = true from Nat.beq_refl b] at hb; cases hb
      rw [this]
      exact find_entry h2 he
theorem amentry_ok (h : Rel μ H w0 w) {x x' r : Value} (hx : VR μ x x') (e : amentry H x = some r) : GotV P (Instr.entry x') μ w0 w r H := by
  unfold amentry at e
  split at e
  · rename_i k
    cases hx with
    | @ptr _ g z _ hm =>
      split at e
      · rename_i m since seen st hk
        split at e
        · rename_i es n b hmap hlast
          cases hb : Nat.beq n st with
          | false => rw [hb] at e; cases e
          | true =>
            rw [hb, cond_true] at e
            have hb := Nat.eq_of_beq_eq_true hb
            split at e
            · rename_i en hen
              cases e
              obtain ⟨g', s', e1, l1, _⟩ := h.lies k _ hk
              rw [hm] at e1; cases e1
              obtain ⟨o, ho, gm, zm, hgm, rfl⟩ := l1 rfl
              obtain ⟨F, hF, hM⟩ := h.mapIn hmap hgm
              obtain ⟨f, hf1, hf2, hf3⟩ := find_entry hM hen
              have hl3 : LR μ [en.1, en.2.1] [f.key, f.val] := .cons hf2 (.cons hf3 (.nil μ))
              refine .pure h (v' := .tuple #[f.key, f.val]) ?_ (.tuple hl3.toArray.1 hl3.toArray.2)
              have hf1' : F.find? (·.born == b) = some f := by rw [← Array.find?_toList]; exact hf1
              subst hb
              simp only [Instr.entry, getObj, Sem.run_bind, Sem.run, ho, hF, Result.andThen, lastN_back, hlast, bne_self_eq_false, Bool.false_eq_true, if_false, hf1', Sem.run_pure]
            · cases e
        · cases e
      · cases e
  · cases e
end
end AM
end Go.Proofs.YtdmbppgogdkpdaaGreatDoor
namespace Go.Proofs.YtdmbppgogdkpdaaGreatDoor
namespace AM
open Go.RowKit
variable [Toks]

section
variable {P : Program} {E : Env} {Q : Eqs} {μ : Mp} {H : AH} {w0 : Base} {w : World} {T : Nat → Option Value} {a : Act} {n : Nat}
/-- Who is called, with what. -/
def acallee (E : Env) (T : Nat → Option Value) (c : Call) : Option (FuncId × List Value) := match aevals T c.args.toList with
  | none => none
  | some l => match c.callee with
    | .value f => match aeval T f with
      | some (.func (.func g) x y) => match E.fn g with
        | some fn => bif fn.body.isSome then some (g, (x.toList ++ l) ++ y.toList) else none
        | none => none
      | _ => none
    | .invoke r name => match aeval T r with
      | some (.iface t v) => match E.info t, E.und t with
        | some i, some d => match i.methods.toList.find? (·.name == name) with
          | some m => bif m.path.toList.isEmpty then (match m.func with
            | some (g, pr) => bif (match d with | .pointer _ => pr | _ => !pr) then (match E.fn g with
                | some fn => bif fn.body.isSome then some (g, v :: l) else none
                | none => none) else none
            | none => none) else none
          | none => none
        | _, _ => none
      | _ => none
    | .builtin _ => none
theorem run_callFunc (hE : E.Ok P) {g : Nat} {fn : Func} (hf : E.fn g = some fn) (hb : fn.body.isSome = true) (args : Array Value) (w : World) : (callFunc g args).run P w = .ok (.enter g args) w := by
  obtain ⟨h1, h2⟩ := hE.fn _ _ hf
  have hb' : fn.body.isNone = false := by cases hq : fn.body <;> simp_all
  simp only [callFunc, Sem.run_bind, program, Sem.run, Result.andThen_ok, h1, h2, Bool.false_eq_true, if_false, hb', Sem.run_pure]
theorem acallee_ok (hE : E.Ok P) (ht : TR μ T a.tmps) {o : Oper} {c : Call} (ho : o.op = .call c) {g : FuncId} {l : List Value} (e : acallee E T c = some (g, l)) :
    ∃ args : Array Value, (execOp a.eval o).run P w = .ok (.enter g args) w ∧ LR μ l args.toList ∧ ∃ fn, E.fn g = some fn ∧ fn.body.isSome = true := by
  unfold acallee at e
  split at e
  · cases e
  · rename_i l0 hl0
    have hargs := LR.map (aevals_ok ht _ l0 hl0)
    split at e
    · rename_i f hc
      split at e
      · rename_i g' x y hf
        split at e
        · rename_i fn hfn
          cases hb : fn.body.isSome with
          | false => rw [hb] at e; cases e
          | true =>
            rw [hb, cond_true] at e
            cases e
            have hv := aeval_ok ht hf
            generalize hav : a.eval f = av at hv
            cases hv with
            | @func _ _ x' _ y' h1 h2 h3 h4 =>
              refine ⟨(x' ++ c.args.map a.eval) ++ y', ?_, ?_, fn, hfn, hb⟩
              · unfold execOp
                rw [ho]
                simp only [resolve, hc, hav, Deferred.ofValue, Sem.run_bind, Sem.run_pure, Result.andThen_ok, invoke, run_callFunc hE hfn hb]
              · rw [Array.toList_append, Array.toList_append]
                exact ((AR.toList ⟨h1, h2⟩).append hargs).append (AR.toList ⟨h3, h4⟩)
        · cases e
      · cases e
    · rename_i r name hc
      split at e
      · rename_i t v hr
        split at e
        · rename_i i d hi hu
          split at e
          · rename_i m hm
            cases hp : m.path.toList.isEmpty with
            | false => rw [hp] at e; cases e
            | true =>
              rw [hp, cond_true] at e
              split at e
              · rename_i g' pr hmf
                cases hk : (match d with | .pointer _ => pr | _ => !pr) with
                | false => rw [hk] at e; cases e
                | true =>
                  rw [hk, cond_true] at e
                  split at e
                  · rename_i fn hfn
                    cases hb : fn.body.isSome with
                    | false => rw [hb] at e; cases e
                    | true =>
                      rw [hb, cond_true] at e
                      cases e
                      have hv := aeval_ok ht hr
                      generalize hav : a.eval r = av at hv
                      cases hv with
                      | @iface _ _ v' hvv =>
                        refine ⟨#[v'] ++ c.args.map a.eval, ?_, ?_, fn, hfn, hb⟩
                        · unfold execOp
                          rw [ho]
                          have hm' : i.methods.find? (·.name == name) = some m := by rw [← Array.find?_toList]; exact hm
                          have hpe : m.path.toList = [] := List.isEmpty_iff.1 hp
                          obtain ⟨D, hD⟩ : ∃ D, P.types.size + Made.depth = D + 1 := by
                            have : 0 < Made.depth := by decide
                            exact ⟨P.types.size + Made.depth - 1, by omega⟩
                          have hrecv : (receiverAt t (.val v') pr (if m.path.isEmpty then some ((name.splitOn ".").getLastD name) else none)).run P w = .ok v' w := by
                            unfold receiverAt
                            simp only [Sem.run_bind, run_und hE hu, Result.andThen_ok]
                            cases pr <;> cases d <;> first | rfl | exact Bool.noConfusion (show false = true from hk)
                          have hmeth : (method (D + 1) t v' name).run P w = .ok (g, v') w := by
                            unfold method
                            simp only [Sem.run_bind, run_info hE hi, Result.andThen_ok, hm', hpe, follow, Sem.run_pure, hmf]
                            rw [hrecv]
                            rfl
                          simp only [resolve, hc, hav, Sem.run_bind, Sem.run_pure, Result.andThen_ok, invoke]
                          have h0 : ((#[Value.iface t v'] ++ c.args.map a.eval : Array Value))[0]? = some (.iface t v') := by rw [Array.getElem?_append_left (by simp)]; rfl
                          have h1 : (#[Value.iface t v'] ++ c.args.map a.eval : Array Value).extract 1 (#[Value.iface t v'] ++ c.args.map a.eval : Array Value).size = c.args.map a.eval := by
                            apply Array.ext'
                            simp
                            exact List.take_of_length_le (by simp)
                          simp only [h0, h1, callMethod, program, Sem.run_bind, Sem.run, Result.andThen_ok, hD, hmeth, run_callFunc hE hfn hb]
                        · rw [Array.toList_append]
                          exact .cons hvv hargs
                  · cases e
              · cases e
          · cases e
        · cases e
      · cases e
    · cases e
/-- From a map that there isn't nothing is taken. -/
def adelete (E : Env) (t : Nat) (m key : Value) : Option Value := match E.und t, m with
  | some (.map kt _), .map none => bif acheck E 40 kt key then some (.tuple #[]) else none
  | _, _ => none
theorem adelete_ok (hE : E.Ok P) (h : Rel μ H w0 w) {t ty : Nat} {ts : Array TypeId} (ht : ts[0]? = some t) {m m' key key' r : Value} (hm : VR μ m m') (hk : VR μ key key') (e : adelete E t m key = some r) : GotV P (Builtin.delete_ ts ty #[m', key']) μ w0 w r H := by
  unfold adelete at e
  split at e
  · rename_i kt el hu
    cases hc : acheck E 40 kt key with
    | false => rw [hc] at e; cases e
    | true =>
      rw [hc, cond_true] at e
      cases e; cases hm
      have hck : (Instr.checkKey true 10000 kt key').run P w = .ok () w := acheck_ok hE 40 kt key key' 10000 true (by decide) hk hc
      refine .pure h (v' := .tuple #[]) ?_ (.tuple rfl (fun i v v' a b => by simp at a))
      simp [Builtin.delete_, ht, run_und hE hu, hck]
  · cases e
/-- Builtins. -/
def abuiltin (P : Program) (E : Env) (H : AH) (b : Builtin) (ts : Array TypeId) (ty : TypeId) (l : List Value) : Option (Value × AH) := match b, ts.toList, l with
  | .append, [t, tx], [s, x] => aappend E H t tx s x
  | .copy, [t, ts], [d, s] => acopy E H t d s
  | .len, t :: _, v :: _ => pairH H (alen E H t v)
  | .max, _, l => pairH H (aminmax P (Builtin.max_ ts ty) l)
  | .min, _, l => pairH H (aminmax P (Builtin.min_ ts ty) l)
  | .delete, t :: _, [m, key] => pairH H (adelete E t m key)
  | .unsafeSliceData, _, [s] => pairH H (asliceData s)
  | .unsafeString, [pt, _], [x, y] => aunsafeStr E H pt x y
  | _, _, _ => none
theorem abuiltin_ok (hE : E.Ok P) (h : Rel μ H w0 w) (ht : TR μ T a.tmps) {o : Oper} {c : Call} (ho : o.op = .call c) {b : Builtin} (hc : c.callee = .builtin b) {l : List Value} (hl : aevals T c.args.toList = some l) {v : Value} {H' : AH} (e : abuiltin P E H b c.argTypes o.type l = some (v, H')) :
    Got P (execOp a.eval o) μ w0 w v H' := by
  have hargs := LR.map (aevals_ok ht _ l hl)
  have key : ∀ s : Sem Value, (∀ cs, builtin b c.argTypes o.type cs (c.args.map a.eval) = (do pure (.value (← s)))) → GotV P s μ w0 w v H' → Got P (execOp a.eval o) μ w0 w v H' := by
    intro s hs hg
    obtain ⟨ν, k, v', w', r1, r2⟩ := hg.val
    refine ⟨ν, k, v', w', ?_, r2⟩
    unfold execOp
    rw [ho]
    simp only [resolve, hc, Sem.run_bind, Sem.run_pure, Result.andThen_ok, invoke, hs, ← r1]
  unfold abuiltin at e
  split at e
  · rename_i t tx s x hts
    obtain ⟨s', l', he, hs, hr⟩ := hargs.inv
    obtain ⟨x', l'', he2, hx, hr2⟩ := hr.inv
    have hn := hr2.inv_nil
    subst hn
    subst he2
    have e1 : c.args.map a.eval = #[s', x'] := by apply Array.ext'; exact he
    have e2 : c.argTypes = #[t, tx] := by apply Array.ext'; exact hts
    refine key (Builtin.append_ c.argTypes o.type (c.args.map a.eval)) (fun _ => rfl) ?_
    rw [e1, e2]
    exact aappend_ok hE h hs hx e
  · rename_i t tx s x hts
    obtain ⟨s', l', he, hs, hr⟩ := hargs.inv
    obtain ⟨x', l'', he2, hx, hr2⟩ := hr.inv
    have hn := hr2.inv_nil
    subst hn
    subst he2
    have e1 : c.args.map a.eval = #[s', x'] := by apply Array.ext'; exact he
    have e2 : c.argTypes = #[t, tx] := by apply Array.ext'; exact hts
    refine key (Builtin.copy_ c.argTypes o.type (c.args.map a.eval)) (fun _ => rfl) ?_
    rw [e1, e2]
    exact acopy_ok hE h hs hx e
  · rename_i t ts v0 l0 hts
    obtain ⟨h1, rfl⟩ := pairH_some e
    obtain ⟨v', l', he, hv, hr⟩ := hargs.inv
    refine key (Builtin.len_ c.argTypes o.type (c.args.map a.eval)) (fun _ => rfl) ?_
    refine alen_ok hE h (t := t) ?_ (v' := v') ?_ hv h1
    · rw [← Array.getElem?_toList, hts]; rfl
    · rw [← Array.getElem?_toList, he]; rfl
  · obtain ⟨h1, rfl⟩ := pairH_some e
    exact key (Builtin.max_ c.argTypes o.type (c.args.map a.eval)) (fun _ => rfl) (aminmax_ok h (f := Builtin.max_ c.argTypes o.type) hargs h1)
  · obtain ⟨h1, rfl⟩ := pairH_some e
    exact key (Builtin.min_ c.argTypes o.type (c.args.map a.eval)) (fun _ => rfl) (aminmax_ok h (f := Builtin.min_ c.argTypes o.type) hargs h1)
  · rename_i t ts m0 key0 hts
    obtain ⟨h1, rfl⟩ := pairH_some e
    obtain ⟨m', l', he, hm, hr⟩ := hargs.inv
    obtain ⟨k', l'', he2, hk, hr2⟩ := hr.inv
    have hn := hr2.inv_nil
    subst hn
    subst he2
    have e1 : c.args.map a.eval = #[m', k'] := by apply Array.ext'; exact he
    refine key (Builtin.delete_ c.argTypes o.type (c.args.map a.eval)) (fun _ => rfl) ?_
    rw [e1]
    exact adelete_ok hE h (by rw [← Array.getElem?_toList, hts]; rfl) hm hk h1
  · obtain ⟨h1, rfl⟩ := pairH_some e
    obtain ⟨s', l', he, hs, hr⟩ := hargs.inv
    have hn := hr.inv_nil
    subst hn
    have e1 : c.args.map a.eval = #[s'] := by apply Array.ext'; exact he
    refine key (Builtin.unsafeSliceData_ c.argTypes o.type (c.args.map a.eval)) (fun _ => rfl) ?_
    rw [e1]
    exact asliceData_ok h hs h1
  · rename_i pt it x y hts
    obtain ⟨s', l', he, hs, hr⟩ := hargs.inv
    obtain ⟨x', l'', he2, hx, hr2⟩ := hr.inv
    have hn := hr2.inv_nil
    subst hn
    subst he2
    have e1 : c.args.map a.eval = #[s', x'] := by apply Array.ext'; exact he
    have e2 : c.argTypes = #[pt, it] := by apply Array.ext'; exact hts
    refine key (Builtin.unsafeString_ c.argTypes o.type (c.args.map a.eval)) (fun _ => rfl) ?_
    rw [e1, e2]
    exact aunsafeStr_ok hE h hs hx e
  · cases e
/-- A slot is written. -/
def aput (T : Tri Value) (n : Nat) (dst : Option Tmp) (v : Value) : Option (Tri Value) := match dst with
  | none => some T
  | some d => bif Nat.blt d n && Nat.blt n 1048575 then some (T.set 20 d v) else none
structure St (μ : Mp) (H : AH) (T : Tri Value) (n : Nat) (D : List Deferred) (w0 : Base) (a : Act) (w : World) : Prop where
  rel : Rel μ H w0 w
  tmps : TR μ T.get a.tmps
  size : a.tmps.size = n
  defers : a.defers = D
theorem aput_ok {D : List Deferred} {T : Tri Value} (hT : TR μ T.get a.tmps) (hn : a.tmps.size = n) (hd : a.defers = D) {dst : Option Tmp} {v v' : Value} (hv : VR μ v v') {T' : Tri Value} (e : aput T n dst v = some T') : TR μ T'.get (a.put dst v').tmps ∧ (a.put dst v').tmps.size = n ∧ (a.put dst v').defers = D := by
  unfold aput at e
  split at e
  · cases e; exact ⟨hT, hn, hd⟩
  · rename_i d
    cases hb : (Nat.blt d n && Nat.blt n 1048575) with
    | false => rw [hb] at e; cases e
    | true =>
      rw [hb, cond_true] at e
      cases e
      simp only [Bool.and_eq_true] at hb
      have h1 : d < n := Nat.le_of_ble_eq_true hb.1
      have h2 : n < 1048575 := Nat.le_of_ble_eq_true hb.2
      refine ⟨fun t u hu => ?_, by simpa [Act.put] using hn, hd⟩
      rw [Tri.get_set 20 T d t v (Nat.lt_of_le_of_lt (Nat.succ_le_of_lt h1) (Nat.lt_trans h2 (by decide)))] at hu
      simp only [Act.put]
      rw [Array.getElem?_setIfInBounds]
      by_cases e2 : t = d
      · subst e2
        rw [if_pos rfl] at hu
        cases hu
        exact ⟨v', by rw [if_pos rfl, if_pos (by rw [hn]; exact h1)], hv⟩
      · rw [if_neg e2] at hu
        obtain ⟨u', hu1, hu2⟩ := hT t u hu
        exact ⟨u', by rw [if_neg (fun e3 => e2 e3.symm)]; exact hu1, hu2⟩
/-- A fence that keeps nobody out. -/
def fw (r : Option Nat) : Fence := { fn := fun _ => True, depth := none, alive := false, round := r }
theorem room_fw (r : Option Nat) (n : Nat) : (fw r).room n := fun _ h => by cases h
theorem callsIn_fw {r r' : Option Nat} {n n' : Nat} {f : FuncId} {args : Array Value} {R : Ending → World → Prop} (h : CallsIn (fw r) n P f args w R) : CallsIn (fw r') n' P f args w R := ⟨trivial, fun cs _ => h.2 cs (room_fw _ _)⟩
theorem roundIn_fw {r r' : Option Nat} {n n' l : Nat} {f : FuncId} {tmps : Array Value} {as bd : Code} {R : Ending → World → Prop} (h : RoundIn (fw r) n P l f tmps as bd w R) : RoundIn (fw r') n' P l f tmps as bd w R := ⟨trivial, fun c cs _ => h.2 c cs (room_fw _ _)⟩
abbrev Outs := List (Value × AH)
abbrev ACall := FuncId → List Value → AH → Option Outs
abbrev ARound := Nat → List Value → AH → Option Outs
def Back (μ : Mp) (w0 : Base) (outs : Outs) (e : Ending) (w' : World) : Prop := ∃ p ∈ outs, ∃ (ν : Mp) (v' : Value), e = .returned v' ∧ μ.le ν ∧ Rel ν p.2 w0 w' ∧ VR ν p.1 v'
def CallOk (P : Program) (call : ACall) : Prop := ∀ (w0 : Base) (f : FuncId) (l : List Value) (H : AH) (outs : Outs) (μ : Mp) (args : Array Value) (w : World), call f l H = some outs → Rel μ H w0 w → LR μ l args.toList →
  CallsIn (fw none) 0 P f args w (Back μ w0 outs)
def RoundOk (P : Program) (round : ARound) : Prop := ∀ (w0 : Base) (k : Nat) (l : List Value) (H : AH) (outs : Outs) (μ : Mp) (args : Array Value) (w : World) (g z : Nat), round k l H = some outs → Rel μ H w0 w → LR μ l args.toList → μ k = some (g, z) →
  ∃ f tmps as bd, (Instr.yield g args).run P w = .ok (.round g f tmps as bd) w ∧ RoundIn (fw none) 0 P g f tmps as bd w (Back μ w0 outs)
/-- What ends in one way. -/
def one : Option (Value × AH) → Option Outs
  | some p => some [p]
  | none => none
def single : Option Outs → Option (Value × AH)
  | some [p] => some p
  | _ => none
theorem single_one (r : Option (Value × AH)) : single (one r) = r := by cases r <;> rfl
theorem one_some {r : Option (Value × AH)} {outs : Outs} (e : one r = some outs) : ∃ v H', r = some (v, H') ∧ outs = [(v, H')] := by
  cases r with
  | none => cases e
  | some p => cases e; exact ⟨p.1, p.2, rfl, rfl⟩
/-- A call of a function without a body, of plain values. -/
def aextern (P : Program) (E : Env) (T : Nat → Option Value) (H : AH) (c : Call) (f : Operand) : Option (Value × AH) := match aeval T f with
  | some (.func (.func g) x y) => bif E.idf g then (match aevals T c.args.toList with
    | some [v] => bif x.toList.isEmpty && y.toList.isEmpty then some (v, H) else none
    | _ => none) else match E.ext g with
    | some e => match aevals T c.args.toList with
      | some l => bif x.toList.isEmpty && y.toList.isEmpty && l.all isScalar then pairH H (asc (pureRun P (e l.toArray))) else none
      | none => none
    | none => none
  | _ => none
theorem aextern_ok (hE : E.Ok P) (h : Rel μ H w0 w) (ht : TR μ T a.tmps) {o : Oper} {c : Call} (ho : o.op = .call c) {f : Operand} (hc : c.callee = .value f) {v : Value} {H' : AH} (e : aextern P E T H c f = some (v, H')) : Got P (execOp a.eval o) μ w0 w v H' := by
  unfold aextern at e
  split at e
  · rename_i g x y hf
    cases hid : E.idf g with
    | true =>
      rw [hid, cond_true] at e
      split at e
      · rename_i v0 hl
        cases hb : (x.toList.isEmpty && y.toList.isEmpty) with
        | false => rw [hb] at e; cases e
        | true =>
          rw [hb, cond_true] at e
          cases e
          simp only [Bool.and_eq_true] at hb
          have hx : x = #[] := by apply Array.ext'; exact List.isEmpty_iff.1 hb.1
          have hy : y = #[] := by apply Array.ext'; exact List.isEmpty_iff.1 hb.2
          subst hx
          subst hy
          have hargs := LR.map (aevals_ok ht _ _ hl)
          obtain ⟨v', l', he, hs, hr⟩ := hargs.inv
          have hn := hr.inv_nil
          subst hn
          have e2 : c.args.map a.eval = #[v'] := by apply Array.ext'; exact he
          have hv := aeval_ok ht hf
          generalize hav : a.eval f = av at hv
          cases hv with
          | @func _ _ x' _ y' h2 _ h3 _ =>
            have hx' : x' = #[] := by apply Array.eq_empty_of_size_eq_zero; rw [← h2]; rfl
            have hy' : y' = #[] := by apply Array.eq_empty_of_size_eq_zero; rw [← h3]; rfl
            subst hx'
            subst hy'
            have hg := (GotV.pure (P := P) (s := (pure v' : Sem Value)) h rfl hs).val
            obtain ⟨ν, nx, v'', w', r1, r2⟩ := hg
            refine ⟨ν, nx, v'', w', ?_, r2⟩
            rw [← r1]
            unfold execOp
            rw [ho]
            simp only [resolve, hc, hav, Deferred.ofValue, Sem.run_bind, Sem.run_pure, Result.andThen_ok, invoke, e2, Array.empty_append, Array.append_empty]
            rw [hE.idf _ hid]
      · cases e
    | false =>
    rw [hid, cond_false] at e
    split at e
    · rename_i ex hex
      split at e
      · rename_i l hl
        cases hb : (x.toList.isEmpty && y.toList.isEmpty && l.all isScalar) with
        | false => rw [hb] at e; cases e
        | true =>
          rw [hb, cond_true] at e
          simp only [Bool.and_eq_true] at hb
          obtain ⟨h1, rfl⟩ := pairH_some e
          have hx : x = #[] := by apply Array.ext'; exact List.isEmpty_iff.1 hb.1.1
          have hy : y = #[] := by apply Array.ext'; exact List.isEmpty_iff.1 hb.1.2
          subst hx
          subst hy
          have hargs := LR.map (aevals_ok ht _ l hl)
          have e2 : c.args.map a.eval = l.toArray := by
            apply Array.ext'
            exact LR.scalars hargs hb.2
          have hv := aeval_ok ht hf
          generalize hav : a.eval f = av at hv
          cases hv with
          | @func _ _ x' _ y' h2 _ h3 _ =>
            have hx' : x' = #[] := by apply Array.eq_empty_of_size_eq_zero; rw [← h2]; rfl
            have hy' : y' = #[] := by apply Array.eq_empty_of_size_eq_zero; rw [← h3]; rfl
            subst hx'
            subst hy'
            have hg := (asc_ok (P := P) h h1).val
            obtain ⟨ν, nx, v', w', r1, r2⟩ := hg
            refine ⟨ν, nx, v', w', ?_, r2⟩
            rw [← r1]
            unfold execOp
            rw [ho]
            simp only [resolve, hc, hav, Deferred.ofValue, Sem.run_bind, Sem.run_pure, Result.andThen_ok, invoke, e2, Array.empty_append, Array.append_empty]
            rw [hE.ext _ _ hex]
            simp only [Sem.run_bind, Sem.run_pure]
      · cases e
    · cases e
  · cases e
theorem aload_addr {μ : Mp} {b : Base} {w : World} {H : AH} (hE : E.Ok P) (h : Rel μ H b w) {t : Nat} {x x' v : Value} (hx : VR μ x x') (e : aload E H t x = some v) : ∃ v', (do loadVar t (← asAddr x') : Sem Value).run P w = .ok v' w ∧ VR μ v v' := by
  have hx2 : ∃ k o, x = .pointer (some ⟨k, o, none⟩) := by
    unfold aload at e
    split at e
    · exact ⟨_, _, rfl⟩
    · cases e
  obtain ⟨k, o, rfl⟩ := hx2
  have hw : ∀ w1 : World, Rel μ H b w1 → ∃ v', (Instr.loadAt t x').run P w1 = .ok v' w1 ∧ VR μ v v' := by
    intro w1 h1
    cases hx with
    | @ptr _ g s _ hm =>
      simp only [aload] at e
      split at e
      · rename_i c el x rw d i hk hu hi
        cases ha : isAggB d with
        | true =>
          rw [ha, cond_true] at e
          cases hb : Nat.ble (o + i.size) c.length with
          | false => rw [hb] at e; cases e
          | true =>
            rw [hb, cond_true] at e
            cases e
            obtain ⟨r, hr, har⟩ := h1.loads (P := P) hk hm i.size 0 o #[] #[] (by have := Nat.le_of_ble_eq_true hb; simpa using this) ⟨rfl, by simp⟩
            refine ⟨.agg r, ?_, ?_⟩
            · simp only [Instr.loadAt, Instr.sureAddr, Sem.run_bind, Sem.run_pure, Result.andThen_ok, loadVar, run_isAgg hE hu, ha, if_true, run_size hE hi, loadCells, hr]
            · simp only [Nat.add_zero, Array.empty_append] at har
              exact .agg har.1 har.2
        | false =>
          rw [ha, cond_false] at e
          obtain ⟨v', hc, hv⟩ := h1.cell hk hm e
          refine ⟨v', ?_, hv⟩
          simp only [Instr.loadAt, Instr.sureAddr, Sem.run_bind, Sem.run_pure, Result.andThen_ok, loadVar, run_isAgg hE hu, ha, Bool.false_eq_true, if_false, run_load, hc]
      · cases e
  obtain ⟨v', h1, h2⟩ := hw w h
  refine ⟨v', ?_, h2⟩
  rw [← h1]
  cases hx with
  | @ptr _ g s _ hm => simp only [Instr.loadAt, Instr.sureAddr, asAddr, Sem.run_bind, Sem.run_pure, Result.andThen_ok]
def isPtrD : TypeDesc → Bool
  | .pointer _ => true
  | _ => false
/-- A method by way of one field, behind a pointer. -/
def amethod (E : Env) (T : Nat → Option Value) (H : AH) (c : Call) (r : Operand) (name : String) : Option (FuncId × List Value) := match aevals T c.args.toList, aeval T r with
  | some l, some (.iface t (.pointer (some ⟨k, o, none⟩))) => match E.info t with
    | some i => match i.methods.toList.find? (·.name == name) with
      | some m => match m.path.toList, m.func with
        | [s], some (g, false) => bif s.deref then (match E.und s.struct with
          | some (.struct fs) => match fs[s.index]? with
            | some fd => match E.info fd.type, E.und fd.type with
              | some fi, some d => bif Nat.beq fi.size 0 || isPtrD d then none else (match aload E H fd.type (.pointer (some ⟨k, o + fd.offset, none⟩)), E.fn g with
                | some v, some fn => bif fn.body.isSome then some (g, v :: l) else none
                | _, _ => none)
              | _, _ => none
            | none => none
          | _ => none) else none
        | _, _ => none
      | none => none
    | none => none
  | _, _ => none
theorem amethod_ok (hE : E.Ok P) (h : Rel μ H w0 w) (ht : TR μ T a.tmps) {o : Oper} {c : Call} (ho : o.op = .call c) {r : Operand} {name : String} (hc : c.callee = .invoke r name) {g : FuncId} {l : List Value} (e : amethod E T H c r name = some (g, l)) :
    ∃ args : Array Value, (execOp a.eval o).run P w = .ok (.enter g args) w ∧ LR μ l args.toList := by
  unfold amethod at e
  split at e
  · rename_i l0 t k off hl0 hr
    have hargs := LR.map (aevals_ok ht _ l0 hl0)
    split at e
    · rename_i i hi
      split at e
      · rename_i m hm
        split at e
        · rename_i s g' hp hmf
          cases hd : s.deref with
          | false => rw [hd] at e; cases e
          | true =>
            rw [hd, cond_true] at e
            split at e
            · rename_i fs hfs
              split at e
              · rename_i fd hfd
                split at e
                · rename_i fi d hfi hfu
                  cases hz : (Nat.beq fi.size 0 || isPtrD d) with
                  | true => rw [hz] at e; cases e
                  | false =>
                    rw [hz, cond_false] at e
                    rw [Bool.or_eq_false_iff] at hz
                    have hne : fi.size ≠ 0 := fun e => by rw [e] at hz; cases hz.1
                    split at e
                    · rename_i v fn hv hfn
                      cases hb : fn.body.isSome with
                      | false => rw [hb] at e; cases e
                      | true =>
                        rw [hb, cond_true] at e
                        cases e
                        have hvr := aeval_ok ht hr
                        generalize hav : a.eval r = av at hvr
                        cases hvr with
                        | @iface _ _ v1 hvv =>
                          cases hvv with
                          | @ptr _ gg z _ hgm =>
                            obtain ⟨v', q1, q2⟩ := aload_addr (P := P) hE h (VR.ptr (off + fd.offset) hgm) hv
                            refine ⟨#[v'] ++ c.args.map a.eval, ?_, ?_⟩
                            · unfold execOp
                              rw [ho]
                              have hm' : i.methods.find? (·.name == name) = some m := by rw [← Array.find?_toList]; exact hm
                              obtain ⟨D, hD⟩ : ∃ D, P.types.size + Made.depth = D + 1 := by
                                have : 0 < Made.depth := by decide
                                exact ⟨P.types.size + Made.depth - 1, by omega⟩
                              have hq : (loadVar fd.type ⟨gg, off + fd.offset, none⟩).run P w = .ok v' w := by
                                simpa only [asAddr, Sem.run_bind, Sem.run_pure, Result.andThen_ok] using q1
                              have hrecv : ∀ nm, (receiverAt fd.type (.var ⟨gg, off + fd.offset, none⟩) false nm).run P w = .ok v' w := by
                                intro nm
                                unfold receiverAt
                                simp only [Sem.run_bind, run_und hE hfu, Result.andThen_ok]
                                cases d <;> first | exact hq | exact Bool.noConfusion (show true = false from hz.2)
                              have hmeth : (method (D + 1) t (.pointer (some ⟨gg, off, none⟩)) name).run P w = .ok (g, v') w := by
                                unfold method
                                simp only [Sem.run_bind, run_info hE hi, Result.andThen_ok, hm', hp, follow, run_und hE hfs, hfd, hd, if_true, Place.get, Sem.run_pure, asAddr, fieldPlace, run_size hE hfi, if_neg hne, addr_add, hmf]
                                rw [hrecv]
                                rfl
                              simp only [resolve, hc, hav, Sem.run_bind, Sem.run_pure, Result.andThen_ok, invoke]
                              have h0 : ((#[Value.iface t (.pointer (some ⟨gg, off, none⟩))] ++ c.args.map a.eval : Array Value))[0]? = some (.iface t (.pointer (some ⟨gg, off, none⟩))) := by rw [Array.getElem?_append_left (by simp)]; rfl
                              have h1 : (#[Value.iface t (.pointer (some ⟨gg, off, none⟩))] ++ c.args.map a.eval : Array Value).extract 1 (#[Value.iface t (.pointer (some ⟨gg, off, none⟩))] ++ c.args.map a.eval : Array Value).size = c.args.map a.eval := by
                                apply Array.ext'
                                simp
                                exact List.take_of_length_le (by simp)
                              simp only [h0, h1, callMethod, program, Sem.run_bind, Sem.run, Result.andThen_ok, hD, hmeth, run_callFunc hE hfn hb]
                            · rw [Array.toList_append]
                              exact .cons q2 hargs
                    · cases e
                · cases e
              · cases e
            · cases e
        · cases e
      · cases e
    · cases e
  · cases e
/-- One operation. -/
def aoper (P : Program) (E : Env) (Q : Eqs) (call : ACall) (round : ARound) (T : Nat → Option Value) (H : AH) (o : Oper) : Option Outs := match o.op with
  | .call c => match c.callee with
    | .builtin b => match aevals T c.args.toList with
      | some l => one (abuiltin P E H b c.argTypes o.type l)
      | none => none
    | .invoke r nm => match acallee E T c with
      | some (g, l) => call g l H
      | none => match amethod E T H c r nm with
        | some (g, l) => call g l H
        | none => none
    | .value f => match aeval T f with
      | some (.func (.yield k) x y) => bif x.toList.isEmpty && y.toList.isEmpty then (match aevals T c.args.toList with
        | some l => round k l H
        | none => none) else none
      | _ => match acallee E T c with
        | some (g, l) => call g l H
        | none => one (aextern P E T H c f)
  | .next x false => match aeval T x with
    | some v => amnext H v
    | none => none
  | .entry x => match aeval T x with
    | some v => one (pairH H (amentry H v))
    | none => none
  | .range t x => match aeval T x with
    | some (.map m) => one (amrange E H t m)
    | some v => one (arangeS E H t v)
    | none => none
  | op => one (aop P E Q T H op)
theorem upon_got {next : Act → World → Prop} {Qx : Exit → Act → World → Prop} {o : Oper} {r : Option Nat} {m : Nat} (hd : ∀ c, o.op ≠ .defer c) {v : Value} {H' : AH} (hg : Got P (execOp a.eval o) μ w0 w v H') (k : ∀ ν v' w', μ.le ν → Rel ν H' w0 w' → VR ν v v' → next (a.put o.dst v') w') : o.wpIn (fw r) m P a w next Qx := by
  obtain ⟨ν, nx, v', w', r1, r2, r3, r4, r5⟩ := hg
  refine ⟨fun _ _ => trivial, ?_⟩
  rw [Oper.semAt_eq _ _ _ hd, r1]
  rcases r2 with rfl | ⟨rfl, rfl⟩
  · exact k ν v' w' r3 r4 r5
  · exact k ν undef w' r3 r4 r5
theorem aoper_ok (hE : E.Ok P) (hQ : Q.Ok P) {call : ACall} {round : ARound} (hC : CallOk P call) (hR : RoundOk P round) (h : Rel μ H w0 w) (ht : TR μ T a.tmps) {o : Oper} {outs : Outs} (e : aoper P E Q call round T H o = some outs) {next : Act → World → Prop} {Qx : Exit → Act → World → Prop} {r : Option Nat} {m : Nat}
    (k : ∀ p ∈ outs, ∀ ν v' w', μ.le ν → Rel ν p.2 w0 w' → VR ν p.1 v' → next (a.put o.dst v') w') : o.wpIn (fw r) m P a w next Qx := by
  unfold aoper at e
  split at e
  · rename_i c ho
    have hd : ∀ c, o.op ≠ .defer c := fun c' hc => by rw [ho] at hc; cases hc
    have callee : ∀ g l, acallee E T c = some (g, l) → call g l H = some outs → o.wpIn (fw r) m P a w next Qx := by
      intro g l hg hcl
      obtain ⟨args, r1, r2, _⟩ := acallee_ok (w := w) hE ht ho hg
      refine ⟨fun _ _ => trivial, ?_⟩
      rw [Oper.semAt_eq _ _ _ hd, r1, Oper.uponIn_enter]
      refine ⟨(fun hh => by cases hh), (callsIn_fw (hC w0 g l H outs μ args w hcl h r2)).mono ?_⟩
      rintro _ w' ⟨p, hp, ν, v', rfl, h1, h2, h3⟩
      exact k p hp ν v' w' h1 h2 h3
    split at e
    · rename_i b hb
      split at e
      · rename_i l hl
        obtain ⟨v, H', e2, rfl⟩ := one_some e
        exact upon_got hd (abuiltin_ok hE h ht ho hb hl e2) (k (v, H') (by simp))
      · cases e
    · rename_i rr nm hcf
      split at e
      · rename_i g l hg
        exact callee g l hg e
      · split at e
        · rename_i g l hg
          obtain ⟨args, r1, r2⟩ := amethod_ok hE h ht ho hcf hg
          refine ⟨fun _ _ => trivial, ?_⟩
          rw [Oper.semAt_eq _ _ _ hd, r1, Oper.uponIn_enter]
          refine ⟨(fun hh => by cases hh), (callsIn_fw (hC w0 g l H outs μ args w e h r2)).mono ?_⟩
          rintro _ w' ⟨p, hp, ν, v', rfl, h1, h2, h3⟩
          exact k p hp ν v' w' h1 h2 h3
        · cases e
    · rename_i f hcf
      split at e
      · rename_i kk x y hf
        cases hb : (x.toList.isEmpty && y.toList.isEmpty) with
        | false => rw [hb] at e; cases e
        | true =>
          rw [hb, cond_true] at e
          split at e
          · rename_i l hl
            have hv := aeval_ok ht hf
            generalize hav : a.eval f = av at hv
            cases hv with
            | @yield _ g z hm =>
              obtain ⟨fn, tmps, as, bd, r1, r2⟩ := hR w0 kk l H outs μ (c.args.map a.eval) w g z e h (LR.map (aevals_ok ht _ l hl)) hm
              refine ⟨fun _ _ => trivial, ?_⟩
              rw [Oper.semAt_eq _ _ _ hd]
              have hrun : (execOp a.eval o).run P w = .ok (.round g fn tmps as bd) w := by
                unfold execOp
                rw [ho]
                simp only [resolve, hcf, hav, Deferred.ofValue, Sem.run_bind, Sem.run_pure, Result.andThen_ok, invoke, Array.empty_append, r1]
              rw [hrun, Oper.uponIn_round]
              refine ⟨(fun hh => by cases hh), (roundIn_fw r2).mono ?_⟩
              rintro _ w' ⟨p, hp, ν, v', rfl, h1, h2, h3⟩
              exact k p hp ν v' w' h1 h2 h3
          · cases e
      · split at e
        · rename_i g l hg
          exact callee g l hg e
        · obtain ⟨v, H', e2, rfl⟩ := one_some e
          exact upon_got hd (aextern_ok hE h ht ho hcf e2) (k (v, H') (by simp))
  · rename_i x ho
    have hd : ∀ c, o.op ≠ .defer c := fun c' hc => by rw [ho] at hc; cases hc
    split at e
    · rename_i v hv
      obtain ⟨p, hp, hg⟩ := amnext_ok (P := P) h (ty := o.type) (aeval_ok ht hv) e
      refine upon_got hd (v := p.1) (H' := p.2) ?_ (k p hp)
      unfold execOp
      rw [ho]
      exact hg.val
    · cases e
  · rename_i x ho
    have hd : ∀ c, o.op ≠ .defer c := fun c' hc => by rw [ho] at hc; cases hc
    split at e
    · rename_i v hv
      obtain ⟨v2, H', e2, rfl⟩ := one_some e
      obtain ⟨e3, rfl⟩ := pairH_some e2
      refine upon_got hd ?_ (k (v2, H') (by simp))
      unfold execOp
      rw [ho]
      exact (amentry_ok (P := P) h (aeval_ok ht hv) e3).val
    · cases e
  · rename_i t x ho
    have hd : ∀ c, o.op ≠ .defer c := fun c' hc => by rw [ho] at hc; cases hc
    split at e
    · rename_i m hv
      obtain ⟨v2, H', e2, rfl⟩ := one_some e
      refine upon_got hd ?_ (k (v2, H') (by simp))
      unfold execOp
      rw [ho]
      exact (amrange_ok (P := P) hE h (aeval_ok ht hv) e2).val
    · rename_i v hn hv
      obtain ⟨v2, H', e2, rfl⟩ := one_some e
      refine upon_got hd ?_ (k (v2, H') (by simp))
      unfold execOp
      rw [ho]
      exact (arangeS_ok (P := P) hE h (aeval_ok ht hv) e2).val
    · cases e
  · rename_i op hop
    obtain ⟨v, H', e2, rfl⟩ := one_some e
    have hd : ∀ c, o.op ≠ .defer c := fun c hc => by rw [hc] at e2; cases e2
    exact upon_got hd (aop_ok hE hQ h ht e2) (k (v, H') (by simp))
/-- One operation that ends in one way. -/
def aoper1 (P : Program) (E : Env) (Q : Eqs) (call : ACall) (round : ARound) (T : Nat → Option Value) (H : AH) (o : Oper) : Option (Value × AH) := single (aoper P E Q call round T H o)
theorem aoper1_ok (hE : E.Ok P) (hQ : Q.Ok P) {call : ACall} {round : ARound} (hC : CallOk P call) (hR : RoundOk P round) (h : Rel μ H w0 w) (ht : TR μ T a.tmps) {o : Oper} {v : Value} {H' : AH} (e : aoper1 P E Q call round T H o = some (v, H')) {next : Act → World → Prop} {Qx : Exit → Act → World → Prop} {r : Option Nat} {m : Nat}
    (k : ∀ ν v' w', μ.le ν → Rel ν H' w0 w' → VR ν v v' → next (a.put o.dst v') w') : o.wpIn (fw r) m P a w next Qx := by
  unfold aoper1 single at e
  split at e
  · rename_i p hp
    cases e
    refine aoper_ok hE hQ hC hR h ht hp ?_
    intro p hp
    rw [List.mem_singleton] at hp
    subst hp
    exact k
  · cases e
/-- Each of several ways, and on. -/
def abind {α β : Type} (f : α → Option (List β)) : List α → Option (List β)
  | [] => some []
  | x :: xs => match f x, abind f xs with
    | some l, some m => some (l ++ m)
    | _, _ => none
theorem abind_mem {α β : Type} {f : α → Option (List β)} : ∀ {l : List α} {r : List β}, abind f l = some r → ∀ x ∈ l, ∃ m, f x = some m ∧ ∀ y ∈ m, y ∈ r
  | [], _, _, x, hx => by simp at hx
  | z :: l, r, e, x, hx => by
    rw [abind] at e
    split at e
    · rename_i m1 m2 h1 h2
      cases e
      rcases List.mem_cons.1 hx with rfl | hx
      · exact ⟨m1, h1, fun y hy => List.mem_append.2 (.inl hy)⟩
      · obtain ⟨m, h3, h4⟩ := abind_mem h2 x hx
        exact ⟨m, h3, fun y hy => List.mem_append.2 (.inr (h4 y hy))⟩
    · cases e
end
end AM
end Go.Proofs.YtdmbppgogdkpdaaGreatDoor
namespace Go.Proofs.YtdmbppgogdkpdaaGreatDoor
namespace AM
open Go.RowKit
variable [Toks]

section
variable {P : Program} {E : Env} {Q : Eqs} {call : ACall} {n : Nat}
/-- Is an operation wanted? -/
def awant (all : List Oper) (T : Nat → Option Value) (o : Oper) : Option Bool := match o.guard with
  | none => some true
  | some (j, want) => match all[j]? with
    | some p => match p.dst with
      | some d => match T d with
        | some (.bool b) => some (b == want)
        | some (.tuple _) => some false
        | _ => none
      | none => none
    | none => none
theorem awant_ok {μ : Mp} {ops : Array Oper} {T : Nat → Option Value} {a : Act} {o : Oper} {b : Bool} (hT : TR μ T a.tmps) (e : awant ops.toList T o = some b) : Region.wanted o (yielded ops a.tmps) = b := by
  unfold awant at e
  unfold Region.wanted
  split at e
  · rename_i hg
    cases e
    rw [hg]
  · rename_i j want hg
    rw [hg]
    split at e
    · rename_i p hp
      split at e
      · rename_i d hd
        split at e
        · rename_i b' hb
          cases e
          obtain ⟨v', h1, h2⟩ := hT d _ hb
          cases h2
          have hp' : ops[j]? = some p := by simpa using hp
          simp only [yielded, hp', Option.bind_some, hd, h1]
          cases b' <;> cases want <;> rfl
        · rename_i x hb
          cases e
          obtain ⟨v', h1, h2⟩ := hT d _ hb
          cases h2
          have hp' : ops[j]? = some p := by simpa using hp
          simp only [yielded, hp', Option.bind_some, hd, h1]
          cases want <;> rfl
        · cases e
      · cases e
    · cases e
def aseq (P : Program) (E : Env) (Q : Eqs) (call : ACall) (round : ARound) (n : Nat) (all : List Oper) : List Oper → Tri Value → AH → Option (List (Tri Value × AH))
  | [], T, H => some [(T, H)]
  | o :: os, T, H => match awant all T.get o with
    | some true => match aoper P E Q call round T.get H o with
      | some outs => abind (fun p => match aput T n o.dst p.1 with
        | some T' => aseq P E Q call round n all os T' p.2
        | none => none) outs
      | none => none
    | some false => match aput T n o.dst undef with
      | some T' => aseq P E Q call round n all os T' H
      | none => none
    | none => none
theorem aseq_ok (hE : E.Ok P) (hQ : Q.Ok P) {w0 : Base} {D : List Deferred} {round : ARound} (hC : CallOk P call) (hR : RoundOk P round) {r : Option Nat} {m : Nat} {ops : Array Oper} {Qx : Exit → Act → World → Prop} : ∀ (os : List Oper) (k : Nat) (T : Tri Value) (H : AH) (outs : List (Tri Value × AH)) (μ : Mp) (a : Act) (w : World),
    ops.toList.drop k = os → aseq P E Q call round n ops.toList os T H = some outs → St μ H T n D w0 a w → (∀ p ∈ outs, ∀ ν a' w', μ.le ν → St ν p.2 p.1 n D w0 a' w' → Qx .normal a' w') → wpOpsIn (fw r) m P ops Qx (List.range' k os.length) a w
  | [], k, T, H, outs, μ, a, w, _, e, hs, hk => by
    simp only [aseq, Option.some.injEq] at e
    subst e
    exact hk (T, H) (by simp) μ a w (.refl μ) hs
  | o :: os, k, T, H, outs, μ, a, w, hd, e, hs, hk => by
    have ho : ops[k]? = some o := by
      have : ops.toList[k]? = some o := by
        have := List.getElem?_drop (xs := ops.toList) (i := k) (j := 0)
        rw [hd] at this
        simpa using this.symm
      simpa using this
    have hd' : ops.toList.drop (k + 1) = os := by
      rw [← List.drop_drop, hd]; rfl
    simp only [List.length_cons, List.range'_succ]
    rw [wpOpsIn_cons]
    simp only [wpOpIn, ho]
    rw [aseq] at e
    split at e
    · rename_i hw
      rw [if_pos (awant_ok hs.tmps hw)]
      split at e
      · rename_i ps hv
        refine aoper_ok hE hQ hC hR hs.rel hs.tmps hv ?_
        intro p hp ν v' w' hle hrel hvr
        obtain ⟨m1, h1, h2⟩ := abind_mem e p hp
        split at h1
        · rename_i T1 hT1
          obtain ⟨p1, p2, p3⟩ := aput_ok (hs.tmps.mono hle) hs.size hs.defers hvr hT1
          exact aseq_ok hE hQ hC hR os (k + 1) T1 p.2 m1 ν _ w' hd' h1 ⟨hrel, p1, p2, p3⟩ (fun q hq ξ a' w'' h3 h4 => hk q (h2 q hq) ξ a' w'' (hle.trans h3) h4)
        · cases h1
      · cases e
    · rename_i hw
      rw [if_neg (by rw [awant_ok hs.tmps hw]; decide)]
      refine ⟨fun _ _ => trivial, ?_⟩
      split at e
      · rename_i T1 hT1
        obtain ⟨p1, p2, p3⟩ := aput_ok hs.tmps hs.size hs.defers (cval_ok μ 3 undef rfl) hT1
        exact aseq_ok hE hQ hC hR os (k + 1) T1 H outs μ _ w hd' e ⟨hs.rel, p1, p2, p3⟩ hk
      · cases e
    · cases e
end
end AM
end Go.Proofs.YtdmbppgogdkpdaaGreatDoor
