/-
  The abstract machine's operations, eighth part: conversions answer as the model's; lengths; functions and interfaces; maps are made. No condition.
  The abstract machine's operations, ninth part: append. No condition.
-/
import Derived.Test.YtoicnghjjgkebaaGreatDoorV10
import Derived.Lib.Builder
import Derived.Lib.UnsafeStr
import Derived.Deep.AppendSrc
set_option linter.unusedSectionVars false
set_option linter.unusedSimpArgs false
set_option linter.unusedVariables false
set_option linter.unnecessarySimpa false
namespace Go.Proofs.YtoicnghjjgkebaaGreatDoor
namespace AM
open Go.RowKit
variable [Toks]

theorem Rel.drew {μ : Mp} {H : AH} {w0 : Base} {w : World} (h : Rel μ H w0 w) : Rel μ H w0 w.drew := ⟨h.os, h.tape, h.output, h.size, h.keep, h.small, h.num, h.lies, h.apart, h.ro⟩
theorem alloc_freeze (w : World) (c : Array Value) (e : TypeId) (n : Nat) : (w.alloc (.cells c e)).freeze ⟨w.heap.size, n, none⟩ 1 = w.alloc (.cells c e (n, n + 1)) := by
  unfold World.freeze World.alloc
  rw [if_neg (by decide)]
  congr 1
  apply Array.ext_getElem?
  intro i
  rw [Array.getElem?_modify, Array.getElem?_push, Array.getElem?_push]
  by_cases e : w.heap.size = i
  · subst e; simp
  · rw [if_neg e]
    have : ¬ i = w.heap.size := fun e' => e e'.symm
    rw [if_neg this, if_neg this]
section
variable {P : Program} {E : Env} {Q : Eqs} {μ : Mp} {H : AH} {w0 : Base} {w : World}
theorem stob_ok (h : Rel μ H w0 w) (el : TypeId) (s : ByteArray) (hn : H.next + 1 < 2 ^ 40) (hb : s.data.toList.length < big) :
    GotV P (Conv.stringToBytes el s) μ w0 w (.slice (some ⟨H.next, 0, none⟩) s.data.toList.length (1 * big + s.data.toList.length)) (H.alloc (.cells (s.data.toList.map fun b => .int .u8 b.toNat) el false true)) := by
  obtain ⟨cap, hcap, hrun⟩ : ∃ cap, s.size ≤ cap ∧ (choose (.appendCap s.size 0 el)).run P w = .ok cap w.drew := by
    refine ⟨(Question.appendCap s.size 0 el).cut (w.tape w.drawn (.appendCap s.size 0 el)), ?_, ?_⟩
    · simp only [Question.cut]; omega
    · simp only [run_choose, Question.forced, Bool.false_eq_true, if_false]; rfl
  have hsz : s.data.toList.length = s.size := Array.length_toList
  have hlen : ((s.data.map fun b => Value.int .u8 b.toNat) ++ Array.replicate (cap - s.size) (Value.int .u8 0)).size = cap := by
    simp only [Array.size_append, Array.size_map, Array.size_replicate]
    have : s.data.size = s.size := rfl
    omega
  obtain ⟨ν, n1, n2, n3⟩ := h.drew.alloc hn (b := .cells (s.data.toList.map fun b => .int .u8 b.toNat) el false true)
    (o := .cells ((s.data.map fun b => Value.int .u8 b.toNat) ++ Array.replicate (cap - s.size) (Value.int .u8 0)) el (cap, cap + 1)) (s := cap)
    ⟨_, _, el, rfl, hlen, fun _ => ⟨rfl, .inr (Nat.le_refl _)⟩, fun e => by simp at e, by simp only [List.length_map]; omega, fun i v hv => by
      rw [List.getElem?_map] at hv
      cases hd : s.data.toList[i]? with
      | none => rw [hd] at hv; cases hv
      | some b =>
        rw [hd] at hv
        simp only [Option.map_some, Option.some.injEq] at hv
        subst hv
        refine ⟨.int .u8 b.toNat, ?_, .int _ _⟩
        have hd' : s.data[i]? = some b := by simpa using hd
        have hi : i < s.data.size := (Array.getElem?_eq_some_iff.1 hd').1
        rw [Array.getElem?_append_left (by simpa using hi), Array.getElem?_map, hd']
        rfl⟩
  refine ⟨ν, .slice (some ⟨w.heap.size, 0, none⟩) s.size cap, _, ?_, n1, n3, ?_⟩
  · have hnr : ∀ arr : Array Value, (newRow el arr).run P w.drew = .ok ⟨w.drew.heap.size, 0, none⟩ (w.drew.alloc (.cells arr el)) := fun arr => rfl
    have hms : ∀ (W : World) (b n : Nat), W.shape? b = some (el, n) → (markStringish ⟨b, 0, none⟩).run P W = .ok () (W.freeze ⟨b, n, none⟩ 1) := fun W b n hW => by
      simp only [markStringish, shape, Sem.run_bind, Sem.run, hW, Result.andThen_ok, freeze]
    have hsh : (w.drew.alloc (.cells ((s.data.map fun b => Value.int .u8 b.toNat) ++ Array.replicate (cap - s.size) (Value.int .u8 0)) el)).shape? w.drew.heap.size = some (el, cap) := by
      have hz : (w.drew.alloc (.cells ((s.data.map fun b => Value.int .u8 b.toNat) ++ Array.replicate (cap - s.size) (Value.int .u8 0)) el)).heap[w.drew.heap.size]? = some (.cells ((s.data.map fun b => Value.int .u8 b.toNat) ++ Array.replicate (cap - s.size) (Value.int .u8 0)) el) := Array.getElem?_push_size
      simp only [World.shape?, hz, hlen]
    unfold Conv.stringToBytes
    simp only [Sem.run_bind, hrun, Result.andThen_ok, hnr, hms _ _ _ hsh, Sem.run_pure, alloc_freeze]
    rfl
  · rw [hsz]
    exact .slx 0 s.size s.size cap 1 n2 (by omega) (by omega) (by omega) hcap (by omega)
theorem freeze_over (w : World) {g : Nat} {C : Array Value} {e : TypeId} {fr : Nat × Nat} (hg : w.heap[g]? = some (.cells C e fr)) (i : Nat) :
    w.freeze ⟨g, i, none⟩ 1 = World.over w g (.cells C e (if fr.1 == fr.2 then (i, i + 1) else (min fr.1 i, max fr.2 (i + 1)))) := by
  unfold World.freeze World.over
  rw [if_neg (by decide)]
  congr 1
  apply Array.ext_getElem?
  intro j
  rw [Array.getElem?_modify, Array.getElem?_setIfInBounds]
  have hlt : g < w.heap.size := (Array.getElem?_eq_some_iff.1 hg).1
  by_cases ej : g = j
  · subst ej
    have hg' : w.heap[g] = .cells C e fr := by rw [Array.getElem?_eq_getElem hlt] at hg; exact Option.some.inj hg
    simp [hlt, hg']
  · simp [ej]
/-- A block whose end is marked. -/
theorem Rel.stringish (h : Rel μ H w0 w) {k : Nat} {c : List Value} {e : TypeId} {x : Bool} (hk : H.t.get k = some (.cells c e x true)) {g s : Nat} (hm : μ k = some (g, s)) (o : Nat) :
    ∃ W, (markStringish ⟨g, o, none⟩).run P w = .ok () W ∧ Rel μ H w0 W := by
  obtain ⟨g', s', e1, l1, _⟩ := h.lies k _ hk
  rw [hm] at e1; cases e1
  obtain ⟨ob, ho, C, fr, e', rfl, q1, q2, q3, q4, q5⟩ := l1 rfl
  obtain ⟨he, q2⟩ := q2 rfl
  rw [he] at ho
  have hsh : w.shape? g = some (e, s) := by simp only [World.shape?, ho, q1]
  refine ⟨w.freeze ⟨g, s, none⟩ 1, ?_, ?_⟩
  · simp only [markStringish, shape, Sem.run_bind, Sem.run, hsh, Result.andThen_ok, freeze]
  · rw [freeze_over w ho]
    have hR := h.over hk rfl rfl hm (b' := .cells c e x true) (o := .cells C e (if fr.1 == fr.2 then (s, s + 1) else (min fr.1 s, max fr.2 (s + 1)))) ⟨C, _, e, rfl, q1, fun _ => ⟨rfl, .inr (by
      rcases q2 with hz | hz
      · rw [hz]; simp
      · split
        · exact Nat.le_refl _
        · exact Nat.le_min.2 ⟨hz, Nat.le_refl _⟩)⟩, q3, q4, q5⟩
    refine hR.congr (fun j => ?_) rfl
    rw [h.get_put (h.get_lt hk)]
    split
    · rename_i ej; rw [ej, hk]
    · rfl
theorem aconv_ok (hE : E.Ok P) (h : Rel μ H w0 w) {src dst : Nat} {v v' r : Value} {H' : AH} (hv : VR μ v v') (e : aconv P E H src dst v = some (r, H')) : GotV P (convert src dst v') μ w0 w r H' := by
  unfold aconv at e
  split at e
  · rename_i el s hs hd
    cases hv
    split at e
    · rename_i hel
      cases hb : (Nat.blt (H.next + 1) 1099511627776 && Nat.blt s.data.toList.length big) with
      | false => rw [hb] at e; cases e
      | true =>
        rw [hb, cond_true] at e
        cases e
        simp only [Bool.and_eq_true] at hb
        have b1 : H.next + 1 < 1099511627776 := Nat.le_of_ble_eq_true hb.1
        have b2 : s.data.toList.length < big := Nat.le_of_ble_eq_true hb.2
        obtain ⟨ν, v1, w1, r1, r2⟩ := stob_ok (P := P) h el s (by omega) b2
        refine ⟨ν, v1, w1, ?_, r2⟩
        simp only [convert, Sem.run_bind, run_und hE hs, run_und hE hd, run_und hE hel, Result.andThen_ok, r1]
    · cases e
  · rename_i el n c hs hd
    cases hv
    split at e
    · rename_i hel
      cases e
      refine .pure h (v' := .string .empty) ?_ (.string _)
      simp only [convert, Sem.run_bind, run_und hE hs, run_und hE hd, run_und hE hel, Result.andThen_ok, Conv.bytesToString, Sem.run_pure]
    · cases e
  · rename_i el k o n c hs hd
    split at e
    · rename_i c el2 x rw hel hk
      cases hb : Nat.ble (o + n) c.length with
      | false => rw [hb] at e; cases e
      | true =>
        rw [hb, cond_true] at e
        split at e
        · rename_i r hr
          cases e
          obtain ⟨ns, h1, rfl⟩ := abytes_ok _ r hr
          have key : ∀ g s cc, μ k = some (g, s) → GotV P (convert src dst (.slice (some ⟨g, o, none⟩) n cc)) μ w0 w (.string ⟨(ns.map fun n => UInt8.ofNat n.toNat).toArray⟩) H := by
            intro g s cc hm
            obtain ⟨arr, r1, r2⟩ := h.loads (P := P) hk hm n 0 o #[] #[] (by have := Nat.le_of_ble_eq_true hb; simpa using this) ⟨rfl, by simp⟩
            simp only [Nat.add_zero, Array.empty_append, h1] at r2
            have r3 := LR.ints ns arr.toList (by have := AR.toList r2; simpa using this)
            have r4 : arr = (ns.map (Value.int .u8)).toArray := by apply Array.ext'; simpa using r3
            refine .pure h (v' := .string ⟨(ns.map fun n => UInt8.ofNat n.toNat).toArray⟩) ?_ (.string _)
            rw [run_convert_bytes_string w src dst el _ _ _ (hE.und _ _ hs) (hE.und _ _ hel) (hE.und _ _ hd), run_bytesToString w _ n cc ns (by rw [← r4]; exact r1), foldl_push]
            simp
          cases hv with
          | sl _ _ _ hm hc => exact key _ _ _ hm
          | slx _ _ _ c' ez hm a1 a2 a3 a4 a5 => exact key _ _ _ hm
        · cases e
    · cases e
  · rename_i el0 el k o n c hs hd
    split at e
    · rename_i c0 el2 x hel hk
      cases hb : Nat.beq src dst with
      | false => rw [hb] at e; cases e
      | true =>
        rw [hb, cond_true] at e
        cases e
        have hsd := Nat.eq_of_beq_eq_true hb
        subst hsd
        rw [hs] at hd
        cases hd
        have key : ∀ g s cc, μ k = some (g, s) → VR μ (.slice (some ⟨k, o, none⟩) n c) (.slice (some ⟨g, o, none⟩) n cc) → GotV P (convert src src (.slice (some ⟨g, o, none⟩) n cc)) μ w0 w (.slice (some ⟨k, o, none⟩) n c) H := by
          intro g s cc hm hvr
          obtain ⟨W, hW, hR⟩ := h.stringish (P := P) hk hm o
          refine ⟨μ, _, W, ?_, .refl μ, hR, hvr⟩
          simp only [convert, Sem.run_bind, run_und hE hs, run_und hE hel, Result.andThen_ok, beq_self_eq_true, hW, Sem.run_pure]
        cases hv with
        | sl _ _ _ hm hc => exact key _ _ _ hm (.sl _ _ _ hm hc)
        | slx _ _ _ c' ez hm a1 a2 a3 a4 a5 => exact key _ _ _ hm (.slx _ _ _ _ _ hm a1 a2 a3 a4 a5)
    · cases e
  · cases hv
    split at e
    · rename_i j hj
      cases e
      exact .pure h (hE.tcv _ _ _ _ hj w) (.tokI _ _)
    · cases e
  · rename_i v _ _ _ _ _ _ _ _ _ _ _ _
    cases hs : isScalar v with
    | false => rw [hs] at e; cases e
    | true =>
      rw [hs, cond_true] at e
      split at e
      · rename_i r' hr
        cases e
        rw [hv.scalar hs]
        exact asc_ok h hr
      · cases e
  · cases e
theorem Rel.shape (h : Rel μ H w0 w) {k : Nat} {c : List Value} {el : TypeId} {x rw : Bool} (hk : H.t.get k = some (.cells c el x rw)) {g s : Nat} (hm : μ k = some (g, s)) :
    ∃ e', w.shape? g = some (e', s) ∧ c.length ≤ s ∧ (rw = true → e' = el) ∧ (x = true → s = c.length) := by
  obtain ⟨g', s', e1, l1, _⟩ := h.lies k _ hk
  rw [hm] at e1; cases e1
  obtain ⟨ob, ho, C, fr, e', rfl, p1, p2, p3, p4, p5⟩ := l1 rfl
  exact ⟨e', by simp [World.shape?, ho, p1], p4, fun hr => (p2 hr).1, p3⟩
/-- .. pointers to unsafe ones, and back. -/
def aconvP (P : Program) (E : Env) (H : AH) (src dst : Nat) (v : Value) : Option (Value × AH) := match E.und src, E.und dst, v with
  | some (.pointer t), some .unsafePointer, .pointer (some ⟨k, o, none⟩) => match H.t.get k, E.info t with
    | some (.cells c _ _ _), some i => bif !(Nat.beq i.size 0) && Nat.blt o c.length then some (.pointer (some ⟨k, o, none⟩), H) else none
    | _, _ => none
  | some .unsafePointer, some (.pointer u), .pointer (some ⟨k, o, none⟩) => match H.t.get k, E.info u with
    | some (.cells c el true true), some _ => bif liesAt P P.depth el (c.length / P.cellsOf el) o u 1 then some (.pointer (some ⟨k, o, none⟩), H) else none
    | _, _ => none
  | _, _, _ => aconv P E H src dst v
theorem aconvP_ok (hE : E.Ok P) (h : Rel μ H w0 w) {src dst : Nat} {v v' r : Value} {H' : AH} (hv : VR μ v v') (e : aconvP P E H src dst v = some (r, H')) : GotV P (convert src dst v') μ w0 w r H' := by
  unfold aconvP at e
  split at e
  · rename_i t k o hs hd
    split at e
    · rename_i c el x rw i hk hi
      cases hb : (!(Nat.beq i.size 0) && Nat.blt o c.length) with
      | false => rw [hb] at e; cases e
      | true =>
        rw [hb, cond_true] at e
        cases e
        simp only [Bool.and_eq_true] at hb
        have hn : i.size ≠ 0 := fun e' => by rw [e'] at hb; exact absurd hb.1 (by decide)
        have ho : o < c.length := Nat.le_of_ble_eq_true hb.2
        cases hv with
        | @ptr _ g s _ hm =>
          obtain ⟨e', q1, q2, _, _⟩ := h.shape hk hm
          exact .pure h (Lib.run_to_unsafe w ⟨g, o, none⟩ (hE.und _ _ hs) (hE.und _ _ hd) (hE.info _ _ hi) hn q1 (Nat.lt_of_lt_of_le ho q2)) (.ptr o hm)
    · cases e
  · rename_i u k o hs hd
    split at e
    · rename_i c el i hk hi
      cases hb : liesAt P P.depth el (c.length / P.cellsOf el) o u 1 with
      | false => rw [hb] at e; cases e
      | true =>
        rw [hb, cond_true] at e; cases e
        cases hv with
        | @ptr _ g s _ hm =>
          obtain ⟨e', q1, q2, q3, q4⟩ := h.shape hk hm
          have e1 := q3 rfl
          have e2 := q4 rfl
          subst e1
          subst e2
          exact .pure h (Lib.run_from_unsafe w ⟨g, o, none⟩ (hE.und _ _ hs) (hE.und _ _ hd) (hE.info _ _ hi) q1 hb) (.ptr o hm)
    · cases e
  · exact aconv_ok hE h hv e
/-- Where a slice's things lie. -/
def asliceData : Value → Option Value
  | .slice none _ _ => some (.pointer none)
  | .slice (some a) n c => bif Nat.blt 0 n && Nat.blt 0 c then some (.pointer (some a)) else none
  | _ => none
theorem asliceData_ok (h : Rel μ H w0 w) {ts : Array TypeId} {ty : TypeId} {v v' r : Value} (hv : VR μ v v') (e : asliceData v = some r) : GotV P (Builtin.unsafeSliceData_ ts ty #[v']) μ w0 w r H := by
  unfold asliceData at e
  split at e
  · cases hv; cases e
    exact .pure h (Lib.run_unsafeSliceData_nil w ts ty _ _) .pnil
  · rename_i a n c
    cases hb : (Nat.blt 0 n && Nat.blt 0 c) with
    | false => rw [hb] at e; cases e
    | true =>
      rw [hb, cond_true] at e; cases e
      simp only [Bool.and_eq_true] at hb
      have h1 : 0 < n := Nat.le_of_ble_eq_true hb.1
      have h2 : 0 < c := Nat.le_of_ble_eq_true hb.2
      cases hv with
      | sl o _ _ hm hc => exact .pure h (Lib.run_unsafeSliceData_row w ts ty _ n c (by omega)) (.ptr o hm)
      | slx o _ c0 c' ez hm a1 a2 a3 a4 a5 => exact .pure h (Lib.run_unsafeSliceData_row w ts ty _ n c' (by omega)) (.ptr o hm)
  · cases e
/-- The text that lies at the head of a row of bytes; nobody looks at the row any more. -/
def astr : List Value → Option (List UInt8)
  | [] => some []
  | .int .u8 n :: l => if n = ((UInt8.ofNat n.toNat).toNat : Int) then (match astr l with
    | some r => some (UInt8.ofNat n.toNat :: r)
    | none => none) else none
  | _ :: _ => none
theorem astr_ok : ∀ (l : List Value) (r : List UInt8), astr l = some r → l = r.map fun x => .int .u8 (x.toNat : Int)
  | [], r, e => by cases e; rfl
  | v :: l, r, e => by
    unfold astr at e
    split at e
    · rename_i h; cases h
    · rename_i n l' h
      cases h
      split at e
      · rename_i hn
        split at e
        · rename_i r' hr
          cases e
          rw [List.map_cons, ← astr_ok _ r' hr, ← hn]
        · cases e
      · cases e
    · cases e
def aunsafeStr (E : Env) (H : AH) (pt : Nat) : Value → Value → Option (Value × AH)
  | .pointer q, .int .i64 n => if n = 0 then some (.string .empty, H) else match q with
    | some ⟨k, 0, none⟩ => match E.und pt, H.t.get k with
      | some (.pointer e), some (.cells c el x true) => match E.info e with
        | some i => bif Nat.beq e el && Nat.beq i.size 1 && decide (0 < n) && decide (n ≤ 1099511627776) && Nat.ble n.toNat c.length then (match astr (c.take n.toNat) with
          | some l => some (.string ⟨l.toArray⟩, H.put k .dead)
          | none => none) else none
        | none => none
      | _, _ => none
    | _ => none
  | _, _ => none
theorem freeze_overN (w : World) {g : Nat} {C : Array Value} {e : TypeId} {fr : Nat × Nat} (hg : w.heap[g]? = some (.cells C e fr)) (i n : Nat) (hn : n ≠ 0) :
    ∃ fr', w.freeze ⟨g, i, none⟩ n = World.over w g (.cells C e fr') := by
  refine ⟨if fr.1 == fr.2 then (i, i + n) else (min fr.1 i, max fr.2 (i + n)), ?_⟩
  unfold World.freeze World.over
  rw [if_neg hn]
  congr 1
  apply Array.ext_getElem?
  intro j
  rw [Array.getElem?_modify, Array.getElem?_setIfInBounds]
  have hlt : g < w.heap.size := (Array.getElem?_eq_some_iff.1 hg).1
  by_cases ej : g = j
  · subst ej
    have hg' : w.heap[g] = .cells C e fr := by rw [Array.getElem?_eq_getElem hlt] at hg; exact Option.some.inj hg
    simp [hlt, hg']
  · simp [ej]
theorem aunsafeStr_ok (hE : E.Ok P) (h : Rel μ H w0 w) {pt it ty : Nat} {x x' y y' r : Value} {H' : AH} (hx : VR μ x x') (hy : VR μ y y') (e : aunsafeStr E H pt x y = some (r, H')) : GotV P (Builtin.unsafeString_ #[pt, it] ty #[x', y']) μ w0 w r H' := by
  unfold aunsafeStr at e
  split at e
  · rename_i q n
    split at e
    · rename_i hn
      subst hn
      cases e
      cases hy
      cases hx with
      | pnil => exact .pure h (Lib.run_unsafeString_none w pt it ty _) (.string _)
      | ptr o hm => exact .pure h (Lib.run_unsafeString_none w pt it ty _) (.string _)
    · rename_i hn
      split at e
      · rename_i k
        split at e
        · rename_i el c el2 xx hu hk
          split at e
          · rename_i i hi
            cases hb : (Nat.beq el el2 && Nat.beq i.size 1 && decide (0 < n) && decide (n ≤ 1099511627776) && Nat.ble n.toNat c.length) with
            | false => rw [hb] at e; cases e
            | true =>
              rw [hb, cond_true] at e
              simp only [Bool.and_eq_true, decide_eq_true_eq] at hb
              obtain ⟨⟨⟨⟨b1, b2⟩, b3⟩, b4⟩, b5⟩ := hb
              have b1 := Nat.eq_of_beq_eq_true b1
              have b2 := Nat.eq_of_beq_eq_true b2
              have b5 := Nat.le_of_ble_eq_true b5
              subst b1
              split at e
              · rename_i l hl
                cases e
                cases hy
                cases hx with
                | @ptr _ g s _ hm =>
                  have hls := astr_ok _ _ hl
                  have hlen : l.length = n.toNat := by
                    have := congrArg List.length hls
                    simp at this; omega
                  obtain ⟨g', s', e1, l1, _⟩ := h.lies k _ hk
                  rw [hm] at e1; cases e1
                  obtain ⟨ob, ho, C, fr, e', rfl, p1, p2, p3, p4, p5⟩ := l1 rfl
                  obtain ⟨he', _⟩ := p2 rfl
                  subst he'
                  have hsz : P.cellsOf e' = 1 := by
                    have := congrArg (fun x => ((x.map TypeInfo.size).getD 0)) (hE.info _ _ hi)
                    exact (show P.cellsOf e' = i.size from this).trans b2
                  have hcell : ∀ (j : Nat) (u : UInt8), l[j]? = some u → w.cell? ((⟨g, 0, none⟩ : Addr).add j) = some (.int .u8 (u.toNat : Int)) := fun j u hj => by
                    have hc : (c.take n.toNat)[j]? = some (.int .u8 (u.toNat : Int)) := by rw [hls, List.getElem?_map, hj]; rfl
                    rw [List.getElem?_take] at hc
                    split at hc
                    · obtain ⟨v', k1, k2⟩ := p5 j _ hc
                      cases k2
                      rw [addr_add, Nat.zero_add]
                      simp [World.cell?, ho, k1]
                    · cases hc
                  have hrun := Lib.run_unsafeString_row (P := P) w pt it ty e' (hE.und _ _ hu) hsz g s (by simp [World.shape?, ho, p1]) l (by intro e0; subst e0; simp at hlen; omega) (by omega) (by omega) hcell
                  obtain ⟨fr', hfr⟩ := freeze_overN w ho 0 l.length (by omega)
                  rw [hfr] at hrun
                  have hnn : (n : Int) = (l.length : Int) := by omega
                  rw [hnn]
                  exact ⟨μ, _, _, hrun, .refl μ, h.bury hk rfl hm _, .string _⟩
              · cases e
          · cases e
        · cases e
      · cases e
  · cases e
/-- Lengths. -/
def alen (E : Env) (H : AH) (t : Nat) (v : Value) : Option Value := match E.und t, v with
  | some (.slice _), .slice _ n _ => some (.int .i64 n)
  | some .string, .string s => some (.int .i64 s.size)
  | some .string, .chan (some 0) => some (.chan (some 1))
  | some .string, .complex q 1 k => (match E.tln k with
    | some j => some (.complex q 0 j)
    | none => some (.chan (some 1)))
  | some (.array n _), _ => some (.int .i64 n)
  | some (.map _ _), .map none => some (.int .i64 0)
  | some (.map _ _), .map (some k) => match H.t.get k with
    | some (.map es _) => some (.int .i64 es.length)
    | _ => none
  | _, _ => none
theorem Rel.map {μ : Mp} {H : AH} {w0 : Base} {w : World} (h : Rel μ H w0 w) {k : Nat} {es : List (Value × Value × Nat)} {n : Nat} (hk : H.t.get k = some (.map es n)) {g s : Nat} (hm : μ k = some (g, s)) :
    ∃ F : Array MapEntry, w.heap[g]? = some (.map F n) ∧ F.size = es.length ∧ ∀ (i : Nat) (e : Value × Value × Nat) (e' : MapEntry), es[i]? = some e → F[i]? = some e' → VR μ e.1 e'.key ∧ VR μ e.2.1 e'.val ∧ e'.born = e.2.2 := by
  obtain ⟨g', s', e1, l1, _⟩ := h.lies k _ hk
  rw [hm] at e1; cases e1
  obtain ⟨o, ho, F, rfl, q1, q2⟩ := l1 rfl
  exact ⟨F, ho, q1, q2⟩
theorem run_getMap {g : Nat} {F : Array MapEntry} {n : Nat} (h : w.heap[g]? = some (.map F n)) : (getObj g).run P w = .ok (.map F n) w := by
  simp only [getObj, Sem.run, h]
theorem alen_ok (hE : E.Ok P) (h : Rel μ H w0 w) {t ty : Nat} {ts : Array TypeId} (ht : ts[0]? = some t) {v v' r : Value} {as : Array Value} (ha : as[0]? = some v') (hv : VR μ v v') (e : alen E H t v = some r) : GotV P (Builtin.len_ ts ty as) μ w0 w r H := by
  have hd : Builtin.len_ ts ty as = Builtin.len_ #[t] ty #[v'] := by
    unfold Builtin.len_
    simp [ht, ha]
  rw [hd]
  unfold alen at e
  split at e
  · rename_i el b n c hu
    cases e
    refine .pure h (v' := .int .i64 n) ?_ (.int _ _)
    cases hv <;> simp [Builtin.len_, run_und hE hu, goInt]
  · rename_i s hu
    cases e; cases hv
    refine .pure h (v' := .int .i64 s.size) ?_ (.int _ _)
    simp [Builtin.len_, run_und hE hu, goInt]
  · rename_i hu
    cases e; cases hv
    rename_i s
    refine .pure h (v' := .int .i64 s.size) ?_ (.unkN _)
    simp [Builtin.len_, run_und hE hu, goInt]
  · rename_i hu
    cases hv
    rename_i k
    split at e
    · rename_i j hj
      cases e
      obtain ⟨k1, k2⟩ := hE.tln _ _ hj
      refine .pure h (v' := .int (Toks.kd j) (Toks.i j)) ?_ (.tokI _ _)
      rw [k1, k2]
      simp [Builtin.len_, run_und hE hu, goInt]
    · cases e
      refine .pure h (v' := .int .i64 (Toks.s k).size) ?_ (.unkN _)
      simp [Builtin.len_, run_und hE hu, goInt]
  · rename_i n el hu
    cases e
    refine .pure h (v' := .int .i64 n) ?_ (.int _ _)
    simp [Builtin.len_, run_und hE hu, goInt]
  · rename_i ke el hu
    cases e; cases hv
    refine .pure h (v' := .int .i64 0) ?_ (.int _ _)
    simp [Builtin.len_, run_und hE hu, goInt]
  · rename_i ke el k hu
    split at e
    · rename_i es n hk
      cases e
      cases hv with
      | map hm =>
        obtain ⟨F, hF, hs, _⟩ := h.map hk hm
        refine .pure h (v' := .int .i64 es.length) ?_ (.int _ _)
        simp [Builtin.len_, run_und hE hu, goInt, run_getMap hF, hs]
    · cases e
  · cases e
/-- A new map. -/
def amakeMap (H : AH) : Option (Value × AH) := bif Nat.blt (H.next + 1) 1099511627776 then some (.map (some H.next), H.alloc (.map [] 0)) else none
theorem amakeMap_ok (hE : E.Ok P) (h : Rel μ H w0 w) {t : Nat} {rv : Option Value} (hr : rv = none ∨ ∃ k n d, rv = some (.int k n) ∧ E.und t = some d ∧ ∃ a b, d = .map a b) {v : Value} {H' : AH} (e : amakeMap H = some (v, H')) : GotV P (Instr.makeMap t rv) μ w0 w v H' := by
  unfold amakeMap at e
  cases hb : Nat.blt (H.next + 1) 1099511627776 with
  | false => rw [hb] at e; cases e
  | true =>
    rw [hb] at e; cases e
    have b1 : H.next + 1 < 1099511627776 := Nat.le_of_ble_eq_true hb
    obtain ⟨ν, n1, n2, n3⟩ := h.alloc (by omega) (b := .map [] 0) (o := .map #[] 0) (s := 0) ⟨#[], rfl, rfl, by simp⟩
    refine ⟨ν, .map (some w.heap.size), w.alloc (.map #[] 0), ?_, n1, n3, .map n2⟩
    rcases hr with rfl | ⟨k, n, d, rfl, hu, a, b, rfl⟩
    · simp only [Instr.makeMap, newObj, Sem.run_bind, Sem.run_pure, Sem.run, Result.andThen_ok]; rfl
    · simp only [Instr.makeMap, newObj, Sem.run_bind, Sem.run_pure, Sem.run, Result.andThen_ok, run_und hE hu, asInt, asIntOf]; rfl
end
end AM
end Go.Proofs.YtoicnghjjgkebaaGreatDoor
namespace Go.Proofs.YtoicnghjjgkebaaGreatDoor
namespace AM
open Go.RowKit
variable [Toks]

theorem growBy_le (n : Nat) : ∀ (r c : Nat), Builtin.growBy n r c ≤ max c (2 * n + 192)
  | 0, c => by simp only [Builtin.growBy]; omega
  | r + 1, c => by
    simp only [Builtin.growBy]
    split
    · omega
    · have := growBy_le n r (c + (c + 768) / 4); omega
theorem nextslicecap_le (n c : Nat) (h : c < n) : Builtin.nextslicecap n c ≤ 2 * n + 512 := by
  unfold Builtin.nextslicecap
  split
  · omega
  · split
    · omega
    · have := growBy_le n 4 c; omega
section
variable {P : Program} {E : Env} {Q : Eqs} {μ : Mp} {H : AH} {w0 : Base} {w : World}
/-- What is appended. -/
def acells (H : AH) (size : Nat) : Value → Option (Nat × List Value)
  | .slice none n _ => bif Nat.beq n 0 then some (0, []) else none
  | .slice (some ⟨k, o, none⟩) n _ => match H.t.get k with
    | some (.cells c _ _ _) => bif Nat.ble (o + n * size) c.length then some (n, (c.drop o).take (n * size)) else none
    | _ => none
  | .string s => bif Nat.beq size 1 then some (s.size, s.data.toList.map fun b => .int .u8 b.toNat) else none
  | _ => none
theorem Rel.row (h : Rel μ H w0 w) {k : Nat} {c : List Value} {e : TypeId} {x rw : Bool} (hk : H.t.get k = some (.cells c e x rw)) {g s : Nat} (hm : μ k = some (g, s)) (o m : Nat) (hl : o + m ≤ c.length) :
    ∃ l' : List Value, LR μ ((c.drop o).take m) l' ∧ l'.length = m ∧ ∀ j u, l'[j]? = some u → w.cell? ⟨g, o + j, none⟩ = some u := by
  obtain ⟨g', s', e1, l1, _⟩ := h.lies k _ hk
  rw [hm] at e1; cases e1
  obtain ⟨ob, ho, C, fr, e', rfl, q1, _, _, q4, hc⟩ := l1 rfl
  have q1' : C.toList.length = s := by rw [Array.length_toList]; exact q1
  refine ⟨(C.toList.drop o).take m, ⟨by simp; omega, fun i v v' h1 h2 => ?_⟩, by simp; omega, fun j u hu => ?_⟩
  · rw [List.getElem?_take] at h1 h2
    split at h1
    · rename_i hi
      rw [if_pos hi] at h2
      rw [List.getElem?_drop] at h1 h2
      obtain ⟨u, hu, hv⟩ := hc _ v h1
      rw [Array.getElem?_toList] at h2
      rw [hu] at h2; cases h2; exact hv
    · cases h1
  · rw [List.getElem?_take] at hu
    split at hu
    · rw [List.getElem?_drop, Array.getElem?_toList] at hu
      simp [World.cell?, ho, hu]
    · cases hu
theorem acells_ok (hE : E.Ok P) (h : Rel μ H w0 w) {size n tx : Nat} {x x' : Value} {l : List Value} {d : TypeDesc} (hu : E.und tx = some d) (hd : (∃ e', d = .slice e') ∨ d = .string) (hds : ∀ s, x = .string s → d = .string) (hdl : ∀ a n c, x = .slice a n c → ∃ e', d = .slice e')
    (hx : VR μ x x') (e : acells H size x = some (n, l)) (h1 : l.all (·.oneCell') = true) :
    l.length = n * size ∧ ∃ l', LR μ l l' ∧ Src P size tx x' n l' w := by
  have hu' := hE.und _ _ hu
  unfold acells at e
  split at e
  · rename_i n' c
    cases hb : Nat.beq n' 0 with
    | false => rw [hb] at e; cases e
    | true =>
      rw [hb] at e; cases e
      have := Nat.eq_of_beq_eq_true hb
      subst this
      cases hx
      obtain ⟨e', rfl⟩ := hdl _ _ _ rfl
      exact ⟨by simp, [], .nil μ, Src.ofNil w hu' c⟩
  · rename_i k o n' c
    obtain ⟨e', rfl⟩ := hdl _ _ _ rfl
    split at e
    · rename_i c' el x rw hk
      cases hb : Nat.ble (o + n' * size) c'.length with
      | false => rw [hb] at e; cases e
      | true =>
        rw [hb, cond_true] at e; cases e
        have hb := Nat.le_of_ble_eq_true hb
        have hl : ((c'.drop o).take (n * size)).length = n * size := by simp; omega
        have key : ∀ g s, μ k = some (g, s) → ∀ cc, ∃ l', LR μ ((c'.drop o).take (n * size)) l' ∧ Src P size tx (.slice (some ⟨g, o, none⟩) n cc) n l' w := by
          intro g s hm cc
          obtain ⟨l', r1, r2, r3⟩ := h.row hk hm o (n * size) hb
          refine ⟨l', r1, Src.ofSlice w hu' _ n cc l' r2 (fun j u hj => by rw [addr_add]; exact r3 j u hj) (fun u hm => ?_)⟩
          obtain ⟨i, hi⟩ := List.mem_iff_getElem?.1 hm
          have hi' : i < ((c'.drop o).take (n * size)).length := by rw [r1.1]; exact (List.getElem?_eq_some_iff.1 hi).1
          have := r1.2 i _ u (List.getElem?_eq_getElem hi') hi
          rw [this.oneCell]
          exact List.all_eq_true.1 h1 _ (List.getElem_mem hi')
        cases hx with
        | sl _ _ _ hm hc => exact ⟨hl, key _ _ hm _⟩
        | slx _ _ _ c2 ez hm a1 a2 a3 a4 a5 => exact ⟨hl, key _ _ hm _⟩
    · cases e
  · rename_i s
    cases hb : Nat.beq size 1 with
    | false => rw [hb] at e; cases e
    | true =>
      rw [hb, cond_true] at e
      simp only [Option.some.injEq, Prod.mk.injEq] at e
      obtain ⟨rfl, rfl⟩ := e
      have := Nat.eq_of_beq_eq_true hb
      subst this
      cases hx
      have hds' := hds s rfl
      subst hds'
      refine ⟨by rw [← byteCells, byteCells_length, Nat.mul_one], byteCells s, ?_, Src.ofString w hu' s⟩
      refine ⟨rfl, fun i v v' h1 h2 => ?_⟩
      have h2' : (s.data.toList.map fun b => Value.int .u8 b.toNat)[i]? = some v' := h2
      rw [h1] at h2'; cases h2'
      rw [List.getElem?_map] at h1
      cases hd : s.data.toList[i]? with
      | none => rw [hd] at h1; cases h1
      | some b => rw [hd] at h1; cases h1; exact .int _ _
  · cases e
/-- A block is handed on under a new number; nobody looks at the elder one any more. -/
theorem Rel.hand (h : Rel μ H w0 w) (hn : H.next + 1 < 2 ^ 40) {k : Nat} {b b' : Blk} (hk : H.t.get k = some b) (hown : b.own = true) {g s : Nat} (hm : μ k = some (g, s)) {o : Obj} (ho : BlkR μ s b' o) (hbo : b'.own = true := by rfl) :
    ∃ ν : Mp, μ.le ν ∧ ν H.next = some (g, s) ∧ Rel ν ((H.put k .dead).alloc b') w0 (World.over w g o) := by
  have hlt := h.get_lt hk
  obtain ⟨g', s', e1, l1, l2⟩ := h.lies k b hk
  rw [hm] at e1; cases e1
  obtain ⟨o0, ho0, _⟩ := l1 (Blk.live_own hown)
  have hg : g < w.heap.size := (Array.getElem?_eq_some_iff.1 ho0).1
  have hg0 := l2 hown
  let ν : Mp := ⟨fun j => if j = H.next then some (g, s) else μ j, H.next + 1, fun k hk => by
    show (if k = H.next then _ else _) = _
    rw [if_neg (by omega)]; exact μ.wf k (by rw [h.num]; omega), fun k hk => by
    show ∃ s', (if k = H.next then _ else _) = _
    rw [if_neg (fun e => μ.glob_lt (μ.wf k (by rw [h.num, e]; exact Nat.le_refl _)) hk)]; exact μ.gl k hk⟩
  have hνd : ∀ k, ν k = if k = H.next then some (g, s) else μ k := fun _ => rfl
  have hle : μ.le ν := ⟨by show μ.N ≤ H.next + 1; rw [h.num]; omega, fun k hk => by
    rw [hνd, if_neg (by rw [h.num] at hk; omega)]⟩
  have hget : ∀ j, ((H.put k .dead).alloc b').t.get j = if j = H.next then some b' else if j = k then some .dead else H.t.get j := fun j => by
    rw [get_alloc (H := H.put k .dead) (by simpa [AH.put] using hn)]
    rw [h.get_put hlt]
    rfl
  refine ⟨ν, hle, by rw [hνd, if_pos rfl], ?_⟩
  refine ⟨h.os, h.tape, h.output, by simpa [World.over] using h.size, fun j hj => ?_, by simpa [AH.alloc, AH.put] using hn, rfl, ?_, ?_, ?_⟩
  · rw [World.over_get _ _ hg, if_neg (fun (e : j = g) => hg0 (by rw [← e]; exact hj))]; exact h.keep j hj
  · intro j c hj
    rw [hget] at hj
    by_cases e : j = H.next
    · rw [if_pos e] at hj; cases hj
      exact ⟨g, s, by rw [hνd, if_pos e], fun _ => ⟨o, by rw [World.over_get _ _ hg, if_pos rfl], ho.mono hle⟩, fun _ => hg0⟩
    · rw [if_neg e] at hj
      by_cases e2 : j = k
      · rw [if_pos e2] at hj; cases hj
        exact ⟨g, s, by rw [hνd, if_neg e, e2]; exact hm, fun hl => by simp [Blk.live] at hl, fun hl => by simp [Blk.own] at hl⟩
      · rw [if_neg e2] at hj
        obtain ⟨g1, s1, m1, k1, k2⟩ := h.lies j c hj
        refine ⟨g1, s1, by rw [hνd, if_neg e]; exact m1, fun hl => ?_, k2⟩
        obtain ⟨o1, ho1, r1⟩ := k1 hl
        have := h.apart k j b c hk hj (fun e' => e2 e'.symm) hown hl g s g1 s1 hm m1
        exact ⟨o1, by rw [World.over_get _ _ hg, if_neg (fun e' => this e'.symm)]; exact ho1, r1.mono hle⟩
  · intro i j b1 c1 hi hj hne ho1 hl1 g1 s1 g2 s2 m1 m2
    rw [hget] at hi hj
    rw [hνd] at m1 m2
    by_cases ei : i = H.next
    · rw [if_pos ei] at hi m1; cases hi; cases m1
      have ej : ¬ j = H.next := fun e => hne (ei.trans e.symm)
      rw [if_neg ej] at hj m2
      by_cases e2 : j = k
      · rw [if_pos e2] at hj; cases hj; simp [Blk.live] at hl1
      · rw [if_neg e2] at hj
        exact h.apart k j b c1 hk hj (fun e' => e2 e'.symm) hown hl1 g s g2 s2 hm m2
    · rw [if_neg ei] at hi m1
      by_cases e2 : i = k
      · rw [if_pos e2] at hi; cases hi; simp [Blk.own] at ho1
      · rw [if_neg e2] at hi
        by_cases ej : j = H.next
        · rw [if_pos ej] at hj m2; cases m2
          exact h.apart i k b1 b hi hk e2 ho1 (Blk.live_own hown) g1 s1 g s m1 hm
        · rw [if_neg ej] at hj m2
          by_cases e3 : j = k
          · rw [if_pos e3] at hj; cases hj; simp [Blk.live] at hl1
          · rw [if_neg e3] at hj
            exact h.apart i j b1 c1 hi hj hne ho1 hl1 g1 s1 g2 s2 m1 m2
  · intro j c hj hl ho g1 s1 m1
    rw [hget] at hj
    rw [hνd] at m1
    by_cases e : j = H.next
    · rw [if_pos e] at hj; cases hj; rw [hbo] at ho; cases ho
    · rw [if_neg e] at hj m1
      by_cases e2 : j = k
      · rw [if_pos e2] at hj; cases hj; simp [Blk.live] at hl
      · rw [if_neg e2] at hj; exact h.ro j c hj hl ho g1 s1 m1
end
end AM
end Go.Proofs.YtoicnghjjgkebaaGreatDoor
