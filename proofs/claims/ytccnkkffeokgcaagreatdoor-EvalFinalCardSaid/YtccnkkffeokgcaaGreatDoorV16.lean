/-
  The abstract machine's operations, twelfth part: entries by their stamps, iterators over texts, copies, the least and the greatest. No condition.
-/
import Derived.Test.YtccnkkffeokgcaaGreatDoorV15
namespace Go.Proofs.YtccnkkffeokgcaaGreatDoor
namespace AM
open Go.RowKit

section
variable {P : Program} {E : Env} {Q : Eqs} {μ : Mp} {H : AH} {w0 : Base} {w : World}
def aentryStore (H : AH) (m stamp v : Value) : Option AH := match m, stamp with
  | .map (some k), .int _ born => match H.t.get k with
    | some (.map es n) => match es.findIdx? (fun e => ((e.2.2 : Nat) : Int) == born) with
      | some i => match es[i]? with
        | some e => some (H.put k (.map (es.set i (e.1, v, e.2.2)) n))
        | none => none
      | none => none
    | _ => none
  | _, _ => none
theorem findIdx_MR {es : List (Value × Value × Nat)} {fs : List MapEntry} (h : MR μ es fs) (born : Int) : fs.findIdx? (fun e => ((e.born : Nat) : Int) == born) = es.findIdx? (fun e => ((e.2.2 : Nat) : Int) == born) := by
  induction es generalizing fs with
  | nil =>
    have : fs = [] := by have := h.1; simpa using this
    subst this; rfl
  | cons e es ih =>
    obtain ⟨f, gs, rfl, ⟨_, _, h3⟩, h4⟩ := h.inv
    rw [List.findIdx?_cons, List.findIdx?_cons, ih h4, h3]
theorem aentryStore_ok (h : Rel μ H w0 w) {t : Nat} {m m' s s' v v' : Value} {H' : AH} (hm : VR μ m m') (hs : VR μ s s') (hv : VR μ v v') (e : aentryStore H m s v = some H') :
    ∃ w', (Instr.entryStore t m' s' v').run P w = .ok () w' ∧ Rel μ H' w0 w' := by
  unfold aentryStore at e
  split at e
  · cases hs
    cases hm with
    | @map k g s hmm =>
      split at e
      · rename_i es n hk
        obtain ⟨F, hF, hMR⟩ := h.mapR hk hmm
        split at e
        · rename_i i hi
          split at e
          · rename_i en hen
            cases e
            have hfi := findIdx_MR hMR
            rw [← hfi] at hi
            have hfa : ∀ p : MapEntry → Bool, F.findIdx? p = F.toList.findIdx? p := fun p => by
              have := List.findIdx?_toArray p F.toList
              rwa [Array.toArray_toList] at this
            rw [← hfa] at hi
            have hil : i < F.toList.length := by rw [hMR.1]; exact (List.getElem?_eq_some_iff.1 hen).1
            have hFi : F[i]? = some F.toList[i] := by simp at hil; simp [hil]
            have hent := hMR.2 i en _ hen (List.getElem?_eq_getElem hil)
            refine ⟨World.over w g (.map (F.modify i fun e => { e with val := v' }) n), ?_, ?_⟩
            · simp only [Instr.entryStore, Sem.run_bind, run_getMap hF, Result.andThen_ok, asInt, asIntOf, Sem.run_pure, hi]
              exact run_setMap w hF _
            · refine h.over hk rfl rfl hmm (MR.blk ?_)
              rw [modify_set F i _ hFi]
              exact hMR.set (e := (en.1, v, en.2.2)) (e' := { F.toList[i] with val := v' }) ⟨hent.1, hv, hent.2.2⟩ i
          · cases e
        · cases e
      · cases e
  · cases e
/-- An iterator over a text. -/
def arangeS (E : Env) (H : AH) (t : Nat) : Value → Option (Value × AH)
  | .string s => match E.und t with
    | some .string => bif Nat.blt (H.next + 1) 1099511627776 then some (.pointer (some ⟨H.next, 0, none⟩), H.alloc (.siter s 0)) else none
    | _ => none
  | _ => none
theorem arangeS_ok (hE : E.Ok P) (h : Rel μ H w0 w) {t : Nat} {x x' r : Value} {H' : AH} (hx : VR μ x x') (e : arangeS E H t x = some (r, H')) : GotV P (Instr.range t x') μ w0 w r H' := by
  unfold arangeS at e
  split at e
  · rename_i s
    cases hx
    split at e
    · rename_i hu
      cases hb : Nat.blt (H.next + 1) 1099511627776 with
      | false => rw [hb] at e; cases e
      | true =>
        rw [hb] at e; cases e
        have b1 : H.next + 1 < 1099511627776 := Nat.le_of_ble_eq_true hb
        obtain ⟨ν, n1, n2, n3⟩ := h.alloc (by omega) (b := .siter s 0) (o := .stringIter s 0) (s := 0) rfl
        refine ⟨ν, .pointer (some ⟨w.heap.size, 0, none⟩), w.alloc (.stringIter s 0), ?_, n1, n3, .ptr 0 n2⟩
        simp only [Instr.range, Sem.run_bind, run_und hE hu, Result.andThen_ok, Sem.run_pure, newObj, Sem.run]
        rfl
    · cases e
  · cases e
theorem Rel.siter (h : Rel μ H w0 w) {k : Nat} {s : ByteArray} {p : Nat} (hk : H.t.get k = some (.siter s p)) {g z : Nat} (hm : μ k = some (g, z)) : w.heap[g]? = some (.stringIter s p) := by
  obtain ⟨g', s', e1, l1, _⟩ := h.lies k _ hk
  rw [hm] at e1; cases e1
  obtain ⟨o, ho, rfl⟩ := l1 rfl
  exact ho
def anextS (H : AH) : Value → Option (Value × AH)
  | .pointer (some ⟨k, 0, none⟩) => match H.t.get k with
    | some (.siter s p) => bif Nat.blt p s.size then
        some (.tuple #[.bool true, .int .i64 p, .int .i32 (Utf8.decode s p).1], H.put k (.siter s (p + (Utf8.decode s p).2)))
      else some (.tuple #[.bool false], H)
    | _ => none
  | _ => none
theorem anextS_ok (h : Rel μ H w0 w) {ty : Nat} {x x' r : Value} {H' : AH} (hx : VR μ x x') (e : anextS H x = some (r, H')) : GotV P (Instr.next x' true ty) μ w0 w r H' := by
  unfold anextS at e
  split at e
  · rename_i k
    cases hx with
    | @ptr _ g z _ hm =>
      split at e
      · rename_i s p hk
        have hg := h.siter hk hm
        have hgo : (getObj g).run P w = .ok (.stringIter s p) w := by simp only [getObj, Sem.run, hg]
        cases hb : Nat.blt p s.size with
        | true =>
          rw [hb, cond_true] at e
          cases e
          have hb : p < s.size := Nat.le_of_ble_eq_true hb
          refine ⟨μ, .tuple #[.bool true, .int .i64 p, .int .i32 (Utf8.decode s p).1], World.over w g (.stringIter s (p + (Utf8.decode s p).2)), ?_, .refl μ, h.over hk rfl rfl hm rfl, ?_⟩
          · have hso : (setObj g (.stringIter s (p + (Utf8.decode s p).2))).run P w = .ok () (World.over w g (.stringIter s (p + (Utf8.decode s p).2))) := by simp only [setObj, Sem.run, hg]; rfl
            simp only [Instr.next, Sem.run_bind, hgo, Result.andThen_ok, if_pos hb, hso, Sem.run_pure, goInt]
          · exact cval_ok μ 3 _ (by rfl)
        | false =>
          rw [hb, cond_false] at e
          cases e
          have hb : ¬ p < s.size := fun hlt => by
            have : Nat.blt p s.size = true := Nat.ble_eq_true_of_le hlt
            rw [this] at hb; cases hb
          refine .pure h (v' := .tuple #[.bool false]) ?_ (cval_ok μ 3 _ (by rfl))
          simp only [Instr.next, Sem.run_bind, hgo, Result.andThen_ok, if_neg hb, Sem.run_pure]
      · cases e
  · cases e
/-- The least, the greatest. -/
def allScalar (as : List Value) : Bool := as.all isScalar
theorem LR.scalars {l l' : List Value} (h : LR μ l l') (hs : allScalar l = true) : l' = l := by
  apply List.ext_getElem (by rw [h.1])
  intro i h1 h2
  exact (h.2 i _ _ (List.getElem?_eq_getElem h2) (List.getElem?_eq_getElem h1)).scalar (List.all_eq_true.1 hs _ (List.getElem_mem h2))
def aminmax (P : Program) (f : Array Value → Sem Value) (as : List Value) : Option Value := bif allScalar as then asc (pureRun P (f as.toArray)) else none
theorem aminmax_ok (h : Rel μ H w0 w) {f : Array Value → Sem Value} {as : List Value} {as' : Array Value} {r : Value} (ha : LR μ as as'.toList) (e : aminmax P f as = some r) : GotV P (f as') μ w0 w r H := by
  unfold aminmax at e
  cases hs : allScalar as with
  | false => rw [hs] at e; cases e
  | true =>
    rw [hs, cond_true] at e
    have := LR.scalars ha hs
    have e2 : as' = as.toArray := by apply Array.ext'; simpa using this
    rw [e2]
    exact asc_ok h e
/-- A copy. -/
def asrc (H : AH) (size dLen : Nat) : Value → Option (Nat × List Value)
  | .slice none m _ => bif Nat.beq m 0 then some (0, []) else none
  | .slice (some ⟨k, o, none⟩) m _ => match H.t.get k with
    | some (.cells c _ _ _) => bif Nat.ble (o + Nat.min m dLen * size) c.length then some (Nat.min m dLen, (c.drop o).take (Nat.min m dLen * size)) else none
    | _ => none
  | .string s => bif Nat.beq size 1 then some (Nat.min s.size dLen, (s.data.toList.take (Nat.min s.size dLen)).map fun b => .int .u8 b.toNat) else none
  | _ => none
theorem asrc_ok (h : Rel μ H w0 w) {size dLen n : Nat} {x x' : Value} {l : List Value} (hx : VR μ x x') (e : asrc H size dLen x = some (n, l)) :
    ∃ m arr, (Builtin.lenOf x').run P w = .ok m w ∧ Nat.min m dLen = n ∧ (Builtin.firstCells size n x').run P w = .ok arr w ∧ LR μ l arr.toList := by
  unfold asrc at e
  split at e
  · rename_i m c
    cases hb : Nat.beq m 0 with
    | false => rw [hb] at e; cases e
    | true =>
      rw [hb] at e; cases e
      have := Nat.eq_of_beq_eq_true hb
      subst this
      cases hx
      exact ⟨0, #[], rfl, Nat.zero_min _, rfl, .nil μ⟩
  · rename_i k o m c
    split at e
    · rename_i c' el x rw hk
      cases hb : Nat.ble (o + Nat.min m dLen * size) c'.length with
      | false => rw [hb] at e; cases e
      | true =>
        rw [hb, cond_true] at e; cases e
        have hb := Nat.le_of_ble_eq_true hb
        have key : ∀ g s, μ k = some (g, s) → ∃ arr, (loadCells ⟨g, o, none⟩ (Nat.min m dLen * size)).run P w = .ok arr w ∧ LR μ ((c'.drop o).take (Nat.min m dLen * size)) arr.toList := by
          intro g s hm
          obtain ⟨arr, r1, r2⟩ := h.loads (P := P) hk hm (Nat.min m dLen * size) 0 o #[] #[] (by simpa using hb) ⟨rfl, by simp⟩
          simp only [Nat.add_zero, Array.empty_append] at r2
          exact ⟨arr, r1, by have := AR.toList r2; simpa using this⟩
        cases hx with
        | sl _ _ _ hm hc => obtain ⟨arr, r1, r2⟩ := key _ _ hm; exact ⟨m, arr, rfl, rfl, r1, r2⟩
        | slx _ _ _ c2 ez hm a1 a2 a3 a4 a5 => obtain ⟨arr, r1, r2⟩ := key _ _ hm; exact ⟨m, arr, rfl, rfl, r1, r2⟩
    · cases e
  · rename_i s
    cases hb : Nat.beq size 1 with
    | false => rw [hb] at e; cases e
    | true =>
      rw [hb, cond_true] at e
      cases e
      cases hx
      refine ⟨s.size, (s.extract 0 (Nat.min s.size dLen)).data.map fun b => .int .u8 b.toNat, rfl, rfl, rfl, ?_⟩
      have hs : ((s.extract 0 (Nat.min s.size dLen)).data.map fun b => Value.int .u8 b.toNat).toList = (s.data.toList.take (Nat.min s.size dLen)).map fun b => .int .u8 b.toNat := by
        rw [Array.toList_map, ByteArray.data_extract, Array.toList_extract]
        simp [List.extract]
      rw [hs]
      refine ⟨rfl, fun i v v' h1 h2 => ?_⟩
      rw [h1] at h2; cases h2
      rw [List.getElem?_map] at h1
      cases hd : (s.data.toList.take (Nat.min s.size dLen))[i]? with
      | none => rw [hd] at h1; cases h1
      | some b => rw [hd] at h1; cases h1; exact .int _ _
  · cases e
def acopy (E : Env) (H : AH) (t : Nat) (d s : Value) : Option (Value × AH) := match E.und t, d with
  | some (.slice el), .slice base dLen _ => match E.info el with
    | some i => match asrc H i.size dLen s, base with
      | some (n, l), some ⟨k, o, none⟩ => match H.t.get k with
        | some (.cells c el2 ex true) => bif Nat.ble (o + l.length) c.length && l.all (·.oneCell') then some (.int .i64 n, H.put k (.cells (setRange c o l) el2 ex true)) else none
        | _ => none
      | some (n, []), none => some (.int .i64 n, H)
      | _, _ => none
    | none => none
  | _, _ => none
theorem acopy_ok (hE : E.Ok P) (h : Rel μ H w0 w) {t ts ty : Nat} {d d' s s' r : Value} {H' : AH} (hd : VR μ d d') (hs : VR μ s s') (e : acopy E H t d s = some (r, H')) : GotV P (Builtin.copy_ #[t, ts] ty #[d', s']) μ w0 w r H' := by
  unfold acopy at e
  split at e
  · rename_i el base dLen cap hu
    split at e
    · rename_i i hi
      split at e
      · rename_i n l k o hsrc
        obtain ⟨m, arr, r1, r2, r3, r4⟩ := asrc_ok (P := P) h hs hsrc
        split at e
        · rename_i c el2 ex hk
          cases hb : (Nat.ble (o + l.length) c.length && l.all (·.oneCell')) with
          | false => rw [hb] at e; cases e
          | true =>
            rw [hb, cond_true] at e
            cases e
            rw [Bool.and_eq_true] at hb
            have hle := Nat.le_of_ble_eq_true hb.1
            have key : ∀ g z cc, μ k = some (g, z) → GotV P (Builtin.copy_ #[t, ts] ty #[.slice (some ⟨g, o, none⟩) dLen cc, s']) μ w0 w (.int .i64 n) (H.put k (.cells (setRange c o l) el2 ex true)) := by
              intro g z cc hm
              obtain ⟨w', q1, q2⟩ := Rel.stores (P := P) hm l arr.toList H c w 0 o h hk r4 hb.2 (by omega)
              refine ⟨μ, .int .i64 n, w', ?_, .refl μ, by simpa using q2, .int _ _⟩
              simp [Builtin.copy_, run_und hE hu, run_size hE hi, r1, r2, r3, q1, goInt]
            cases hd with
            | sl _ _ _ hm hc => exact key _ _ _ hm
            | slx _ _ _ c2 ez hm a1 a2 a3 a4 a5 => exact key _ _ _ hm
        · cases e
      · rename_i n hsrc
        cases e
        obtain ⟨m, arr, r1, r2, r3, r4⟩ := asrc_ok (P := P) h hs hsrc
        cases hd
        refine .pure h (v' := .int .i64 n) ?_ (.int _ _)
        simp [Builtin.copy_, run_und hE hu, run_size hE hi, r1, r2, r3, goInt]
      · cases e
    · cases e
  · cases e
/-- What an interface holds. -/
def aassert (E : Env) (asserted : Nat) (ok : Bool) : Value → Option Value
  | .iface t v => match E.und asserted with
    | some (.interface want) => match E.info t with
      | some i => match Instr.missingMethod want i.methods with
        | none => some (bif ok then .tuple #[.iface t v, .bool true] else .iface t v)
        | some _ => none
      | none => none
    | some _ => bif Nat.beq t asserted then some (bif ok then .tuple #[v, .bool true] else v) else none
    | none => none
  | _ => none
theorem aassert_ok (hE : E.Ok P) (h : Rel μ H w0 w) {xt asserted : Nat} {ok : Bool} {x x' r : Value} (hx : VR μ x x') (e : aassert E asserted ok x = some r) : GotV P (Instr.typeAssert x' xt asserted ok) μ w0 w r H := by
  unfold aassert at e
  split at e
  · rename_i t v
    cases hx with
    | @iface _ _ v' hv =>
      split at e
      · rename_i want hu
        split at e
        · rename_i i hi
          split at e
          · rename_i hm
            cases e
            refine .pure h (v' := if ok then .tuple #[.iface t v', .bool true] else .iface t v') ?_ ?_
            · simp only [Instr.typeAssert, Sem.run_bind, run_und hE hu, Result.andThen_ok, run_info hE hi, hm, Sem.run_pure]
            · cases ok
              · exact .iface t hv
              · exact (VR.iface t hv).pair true
          · cases e
        · cases e
      · rename_i d hn hu
        cases hb : Nat.beq t asserted with
        | false => rw [hb] at e; cases e
        | true =>
          rw [hb, cond_true] at e
          cases e
          have := Nat.eq_of_beq_eq_true hb
          subst this
          refine .pure h (v' := if ok then .tuple #[v', .bool true] else v') ?_ ?_
          · simp only [Instr.typeAssert, Sem.run_bind, run_und hE hu, Result.andThen_ok]
            cases d <;> first | (exact (hn _ rfl).elim) | (simp only [if_true, Sem.run_pure])
          · cases ok
            · exact hv
            · exact hv.pair true
      · cases e
  · cases e
end
end AM
end Go.Proofs.YtccnkkffeokgcaaGreatDoor
