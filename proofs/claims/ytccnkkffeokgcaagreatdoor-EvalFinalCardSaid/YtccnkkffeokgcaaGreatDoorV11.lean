/-
  The abstract machine's operations, eighth part: conversions answer as the model's; lengths; functions and interfaces; maps are made. No condition.
-/
import Derived.Test.YtccnkkffeokgcaaGreatDoorV10
import Derived.Lib.Builder
import Derived.Lib.UnsafeStr
namespace Go.Proofs.YtccnkkffeokgcaaGreatDoor
namespace AM
open Go.RowKit

theorem Rel.drew {μ : Mp} {H : AH} {w0 : Base} {w : World} (h : Rel μ H w0 w) : Rel μ H w0 w.drew := ⟨h.os, h.tape, h.output, h.size, h.keep, h.small, h.num, h.lies, h.apart, h.ro⟩
theorem alloc_freeze (w : World) (c : Array Value) (e : TypeId) (n : Nat) : (w.alloc (.cells c e)).freeze ⟨w.heap.size, n, none⟩ 1 = w.alloc (.cells c e (n, n + 1)) := by
  unfold World.freeze World.alloc
  rw [if_neg (by decide)]
  congr 1
  apply Array.ext_getElem?
  intro i
  rw [Array.getElem?_modify, Array.getElem?_push, Array.getElem?_push]
  by_cases e : w.heap.size = i
  · subst e; simp
  · rw [if_neg e]
    have : ¬ i = w.heap.size := fun e' => e e'.symm
    rw [if_neg this, if_neg this]
section
variable {P : Program} {E : Env} {Q : Eqs} {μ : Mp} {H : AH} {w0 : Base} {w : World}
theorem stob_ok (h : Rel μ H w0 w) (el : TypeId) (s : ByteArray) (hn : H.next + 1 < 2 ^ 40) (hb : s.data.toList.length < big) :
    GotV P (Conv.stringToBytes el s) μ w0 w (.slice (some ⟨H.next, 0, none⟩) s.data.toList.length (1 * big + s.data.toList.length)) (H.alloc (.cells (s.data.toList.map fun b => .int .u8 b.toNat) el false true)) := by
  obtain ⟨cap, hcap, hrun⟩ : ∃ cap, s.size ≤ cap ∧ (choose (.appendCap s.size 0 el)).run P w = .ok cap w.drew := by
    refine ⟨(Question.appendCap s.size 0 el).cut (w.tape w.drawn (.appendCap s.size 0 el)), ?_, ?_⟩
    · simp only [Question.cut]; omega
    · simp only [run_choose, Question.forced, Bool.false_eq_true, if_false]; rfl
  have hsz : s.data.toList.length = s.size := Array.length_toList
  have hlen : ((s.data.map fun b => Value.int .u8 b.toNat) ++ Array.replicate (cap - s.size) (Value.int .u8 0)).size = cap := by
    simp only [Array.size_append, Array.size_map, Array.size_replicate]
    have : s.data.size = s.size := rfl
    omega
  obtain ⟨ν, n1, n2, n3⟩ := h.drew.alloc hn (b := .cells (s.data.toList.map fun b => .int .u8 b.toNat) el false true)
    (o := .cells ((s.data.map fun b => Value.int .u8 b.toNat) ++ Array.replicate (cap - s.size) (Value.int .u8 0)) el (cap, cap + 1)) (s := cap)
    ⟨_, _, el, rfl, hlen, fun _ => ⟨rfl, .inr (Nat.le_refl _)⟩, fun e => by simp at e, by simp only [List.length_map]; omega, fun i v hv => by
      rw [List.getElem?_map] at hv
      cases hd : s.data.toList[i]? with
      | none => rw [hd] at hv; cases hv
      | some b =>
        rw [hd] at hv
        simp only [Option.map_some, Option.some.injEq] at hv
        subst hv
        refine ⟨.int .u8 b.toNat, ?_, .int _ _⟩
        have hd' : s.data[i]? = some b := by simpa using hd
        have hi : i < s.data.size := (Array.getElem?_eq_some_iff.1 hd').1
        rw [Array.getElem?_append_left (by simpa using hi), Array.getElem?_map, hd']
        rfl⟩
  refine ⟨ν, .slice (some ⟨w.heap.size, 0, none⟩) s.size cap, _, ?_, n1, n3, ?_⟩
  · have hnr : ∀ arr : Array Value, (newRow el arr).run P w.drew = .ok ⟨w.drew.heap.size, 0, none⟩ (w.drew.alloc (.cells arr el)) := fun arr => rfl
    have hms : ∀ (W : World) (b n : Nat), W.shape? b = some (el, n) → (markStringish ⟨b, 0, none⟩).run P W = .ok () (W.freeze ⟨b, n, none⟩ 1) := fun W b n hW => by
      simp only [markStringish, shape, Sem.run_bind, Sem.run, hW, Result.andThen_ok, freeze]
    have hsh : (w.drew.alloc (.cells ((s.data.map fun b => Value.int .u8 b.toNat) ++ Array.replicate (cap - s.size) (Value.int .u8 0)) el)).shape? w.drew.heap.size = some (el, cap) := by
      have hz : (w.drew.alloc (.cells ((s.data.map fun b => Value.int .u8 b.toNat) ++ Array.replicate (cap - s.size) (Value.int .u8 0)) el)).heap[w.drew.heap.size]? = some (.cells ((s.data.map fun b => Value.int .u8 b.toNat) ++ Array.replicate (cap - s.size) (Value.int .u8 0)) el) := Array.getElem?_push_size
      simp only [World.shape?, hz, hlen]
    unfold Conv.stringToBytes
    simp only [Sem.run_bind, hrun, Result.andThen_ok, hnr, hms _ _ _ hsh, Sem.run_pure, alloc_freeze]
    rfl
  · rw [hsz]
    exact .slx 0 s.size s.size cap 1 n2 (by omega) (by omega) (by omega) hcap (by omega)
theorem freeze_over (w : World) {g : Nat} {C : Array Value} {e : TypeId} {fr : Nat × Nat} (hg : w.heap[g]? = some (.cells C e fr)) (i : Nat) :
    w.freeze ⟨g, i, none⟩ 1 = World.over w g (.cells C e (if fr.1 == fr.2 then (i, i + 1) else (min fr.1 i, max fr.2 (i + 1)))) := by
  unfold World.freeze World.over
  rw [if_neg (by decide)]
  congr 1
  apply Array.ext_getElem?
  intro j
  rw [Array.getElem?_modify, Array.getElem?_setIfInBounds]
  have hlt : g < w.heap.size := (Array.getElem?_eq_some_iff.1 hg).1
  by_cases ej : g = j
  · subst ej
    have hg' : w.heap[g] = .cells C e fr := by rw [Array.getElem?_eq_getElem hlt] at hg; exact Option.some.inj hg
    simp [hlt, hg']
  · simp [ej]
/-- A block whose end is marked. -/
theorem Rel.stringish (h : Rel μ H w0 w) {k : Nat} {c : List Value} {e : TypeId} {x : Bool} (hk : H.t.get k = some (.cells c e x true)) {g s : Nat} (hm : μ k = some (g, s)) (o : Nat) :
    ∃ W, (markStringish ⟨g, o, none⟩).run P w = .ok () W ∧ Rel μ H w0 W := by
  obtain ⟨g', s', e1, l1, _⟩ := h.lies k _ hk
  rw [hm] at e1; cases e1
  obtain ⟨ob, ho, C, fr, e', rfl, q1, q2, q3, q4, q5⟩ := l1 rfl
  obtain ⟨he, q2⟩ := q2 rfl
  rw [he] at ho
  have hsh : w.shape? g = some (e, s) := by simp only [World.shape?, ho, q1]
  refine ⟨w.freeze ⟨g, s, none⟩ 1, ?_, ?_⟩
  · simp only [markStringish, shape, Sem.run_bind, Sem.run, hsh, Result.andThen_ok, freeze]
  · rw [freeze_over w ho]
    have hR := h.over hk rfl rfl hm (b' := .cells c e x true) (o := .cells C e (if fr.1 == fr.2 then (s, s + 1) else (min fr.1 s, max fr.2 (s + 1)))) ⟨C, _, e, rfl, q1, fun _ => ⟨rfl, .inr (by
      rcases q2 with hz | hz
      · rw [hz]; simp
      · split
        · exact Nat.le_refl _
        · exact Nat.le_min.2 ⟨hz, Nat.le_refl _⟩)⟩, q3, q4, q5⟩
    refine hR.congr (fun j => ?_) rfl
    rw [h.get_put (h.get_lt hk)]
    split
    · rename_i ej; rw [ej, hk]
    · rfl
theorem aconv_ok (hE : E.Ok P) (h : Rel μ H w0 w) {src dst : Nat} {v v' r : Value} {H' : AH} (hv : VR μ v v') (e : aconv P E H src dst v = some (r, H')) : GotV P (convert src dst v') μ w0 w r H' := by
  unfold aconv at e
  split at e
  · rename_i el s hs hd
    cases hv
    split at e
    · rename_i hel
      cases hb : (Nat.blt (H.next + 1) 1099511627776 && Nat.blt s.data.toList.length big) with
      | false => rw [hb] at e; cases e
      | true =>
        rw [hb, cond_true] at e
        cases e
        simp only [Bool.and_eq_true] at hb
        have b1 : H.next + 1 < 1099511627776 := Nat.le_of_ble_eq_true hb.1
        have b2 : s.data.toList.length < big := Nat.le_of_ble_eq_true hb.2
        obtain ⟨ν, v1, w1, r1, r2⟩ := stob_ok (P := P) h el s (by omega) b2
        refine ⟨ν, v1, w1, ?_, r2⟩
        simp only [convert, Sem.run_bind, run_und hE hs, run_und hE hd, run_und hE hel, Result.andThen_ok, r1]
    · cases e
  · rename_i el n c hs hd
    cases hv
    split at e
    · rename_i hel
      cases e
      refine .pure h (v' := .string .empty) ?_ (.string _)
      simp only [convert, Sem.run_bind, run_und hE hs, run_und hE hd, run_und hE hel, Result.andThen_ok, Conv.bytesToString, Sem.run_pure]
    · cases e
  · rename_i el k o n c hs hd
    split at e
    · rename_i c el2 x rw hel hk
      cases hb : Nat.ble (o + n) c.length with
      | false => rw [hb] at e; cases e
      | true =>
        rw [hb, cond_true] at e
        split at e
        · rename_i r hr
          cases e
          obtain ⟨ns, h1, rfl⟩ := abytes_ok _ r hr
          have key : ∀ g s cc, μ k = some (g, s) → GotV P (convert src dst (.slice (some ⟨g, o, none⟩) n cc)) μ w0 w (.string ⟨(ns.map fun n => UInt8.ofNat n.toNat).toArray⟩) H := by
            intro g s cc hm
            obtain ⟨arr, r1, r2⟩ := h.loads (P := P) hk hm n 0 o #[] #[] (by have := Nat.le_of_ble_eq_true hb; simpa using this) ⟨rfl, by simp⟩
            simp only [Nat.add_zero, Array.empty_append, h1] at r2
            have r3 := LR.ints ns arr.toList (by have := AR.toList r2; simpa using this)
            have r4 : arr = (ns.map (Value.int .u8)).toArray := by apply Array.ext'; simpa using r3
            refine .pure h (v' := .string ⟨(ns.map fun n => UInt8.ofNat n.toNat).toArray⟩) ?_ (.string _)
            rw [run_convert_bytes_string w src dst el _ _ _ (hE.und _ _ hs) (hE.und _ _ hel) (hE.und _ _ hd), run_bytesToString w _ n cc ns (by rw [← r4]; exact r1), foldl_push]
            simp
          cases hv with
          | sl _ _ _ hm hc => exact key _ _ _ hm
          | slx _ _ _ c' ez hm a1 a2 a3 a4 a5 => exact key _ _ _ hm
        · cases e
    · cases e
  · rename_i el0 el k o n c hs hd
    split at e
    · rename_i c0 el2 x hel hk
      cases hb : Nat.beq src dst with
      | false => rw [hb] at e; cases e
      | true =>
        rw [hb, cond_true] at e
        cases e
        have hsd := Nat.eq_of_beq_eq_true hb
        subst hsd
        rw [hs] at hd
        cases hd
        have key : ∀ g s cc, μ k = some (g, s) → VR μ (.slice (some ⟨k, o, none⟩) n c) (.slice (some ⟨g, o, none⟩) n cc) → GotV P (convert src src (.slice (some ⟨g, o, none⟩) n cc)) μ w0 w (.slice (some ⟨k, o, none⟩) n c) H := by
          intro g s cc hm hvr
          obtain ⟨W, hW, hR⟩ := h.stringish (P := P) hk hm o
          refine ⟨μ, _, W, ?_, .refl μ, hR, hvr⟩
          simp only [convert, Sem.run_bind, run_und hE hs, run_und hE hel, Result.andThen_ok, beq_self_eq_true, hW, Sem.run_pure]
        cases hv with
        | sl _ _ _ hm hc => exact key _ _ _ hm (.sl _ _ _ hm hc)
        | slx _ _ _ c' ez hm a1 a2 a3 a4 a5 => exact key _ _ _ hm (.slx _ _ _ _ _ hm a1 a2 a3 a4 a5)
    · cases e
  · rename_i v _ _ _ _ _ _ _ _ _ _ _
    cases hs : isScalar v with
    | false => rw [hs] at e; cases e
    | true =>
      rw [hs, cond_true] at e
      split at e
      · rename_i r' hr
        cases e
        rw [hv.scalar hs]
        exact asc_ok h hr
      · cases e
  · cases e
theorem Rel.shape (h : Rel μ H w0 w) {k : Nat} {c : List Value} {el : TypeId} {x rw : Bool} (hk : H.t.get k = some (.cells c el x rw)) {g s : Nat} (hm : μ k = some (g, s)) :
    ∃ e', w.shape? g = some (e', s) ∧ c.length ≤ s ∧ (rw = true → e' = el) ∧ (x = true → s = c.length) := by
  obtain ⟨g', s', e1, l1, _⟩ := h.lies k _ hk
  rw [hm] at e1; cases e1
  obtain ⟨ob, ho, C, fr, e', rfl, p1, p2, p3, p4, p5⟩ := l1 rfl
  exact ⟨e', by simp [World.shape?, ho, p1], p4, fun hr => (p2 hr).1, p3⟩
/-- .. pointers to unsafe ones, and back. -/
def aconvP (P : Program) (E : Env) (H : AH) (src dst : Nat) (v : Value) : Option (Value × AH) := match E.und src, E.und dst, v with
  | some (.pointer t), some .unsafePointer, .pointer (some ⟨k, o, none⟩) => match H.t.get k, E.info t with
    | some (.cells c _ _ _), some i => bif !(Nat.beq i.size 0) && Nat.blt o c.length then some (.pointer (some ⟨k, o, none⟩), H) else none
    | _, _ => none
  | some .unsafePointer, some (.pointer u), .pointer (some ⟨k, o, none⟩) => match H.t.get k, E.info u with
    | some (.cells c el true true), some _ => bif liesAt P P.depth el (c.length / P.cellsOf el) o u 1 then some (.pointer (some ⟨k, o, none⟩), H) else none
    | _, _ => none
  | _, _, _ => aconv P E H src dst v
theorem aconvP_ok (hE : E.Ok P) (h : Rel μ H w0 w) {src dst : Nat} {v v' r : Value} {H' : AH} (hv : VR μ v v') (e : aconvP P E H src dst v = some (r, H')) : GotV P (convert src dst v') μ w0 w r H' := by
  unfold aconvP at e
  split at e
  · rename_i t k o hs hd
    split at e
    · rename_i c el x rw i hk hi
      cases hb : (!(Nat.beq i.size 0) && Nat.blt o c.length) with
      | false => rw [hb] at e; cases e
      | true =>
        rw [hb, cond_true] at e
        cases e
        simp only [Bool.and_eq_true] at hb
        have hn : i.size ≠ 0 := fun e' => by rw [e'] at hb; exact absurd hb.1 (by decide)
        have ho : o < c.length := Nat.le_of_ble_eq_true hb.2
        cases hv with
        | @ptr _ g s _ hm =>
          obtain ⟨e', q1, q2, _, _⟩ := h.shape hk hm
          exact .pure h (Lib.run_to_unsafe w ⟨g, o, none⟩ (hE.und _ _ hs) (hE.und _ _ hd) (hE.info _ _ hi) hn q1 (Nat.lt_of_lt_of_le ho q2)) (.ptr o hm)
    · cases e
  · rename_i u k o hs hd
    split at e
    · rename_i c el i hk hi
      cases hb : liesAt P P.depth el (c.length / P.cellsOf el) o u 1 with
      | false => rw [hb] at e; cases e
      | true =>
        rw [hb, cond_true] at e; cases e
        cases hv with
        | @ptr _ g s _ hm =>
          obtain ⟨e', q1, q2, q3, q4⟩ := h.shape hk hm
          have e1 := q3 rfl
          have e2 := q4 rfl
          subst e1
          subst e2
          exact .pure h (Lib.run_from_unsafe w ⟨g, o, none⟩ (hE.und _ _ hs) (hE.und _ _ hd) (hE.info _ _ hi) q1 hb) (.ptr o hm)
    · cases e
  · exact aconv_ok hE h hv e
/-- Where a slice's things lie. -/
def asliceData : Value → Option Value
  | .slice none _ _ => some (.pointer none)
  | .slice (some a) n c => bif Nat.blt 0 n && Nat.blt 0 c then some (.pointer (some a)) else none
  | _ => none
theorem asliceData_ok (h : Rel μ H w0 w) {ts : Array TypeId} {ty : TypeId} {v v' r : Value} (hv : VR μ v v') (e : asliceData v = some r) : GotV P (Builtin.unsafeSliceData_ ts ty #[v']) μ w0 w r H := by
  unfold asliceData at e
  split at e
  · cases hv; cases e
    exact .pure h (Lib.run_unsafeSliceData_nil w ts ty _ _) .pnil
  · rename_i a n c
    cases hb : (Nat.blt 0 n && Nat.blt 0 c) with
    | false => rw [hb] at e; cases e
    | true =>
      rw [hb, cond_true] at e; cases e
      simp only [Bool.and_eq_true] at hb
      have h1 : 0 < n := Nat.le_of_ble_eq_true hb.1
      have h2 : 0 < c := Nat.le_of_ble_eq_true hb.2
      cases hv with
      | sl o _ _ hm hc => exact .pure h (Lib.run_unsafeSliceData_row w ts ty _ n c (by omega)) (.ptr o hm)
      | slx o _ c0 c' ez hm a1 a2 a3 a4 a5 => exact .pure h (Lib.run_unsafeSliceData_row w ts ty _ n c' (by omega)) (.ptr o hm)
  · cases e
/-- The text that lies at the head of a row of bytes; nobody looks at the row any more. -/
def astr : List Value → Option (List UInt8)
  | [] => some []
  | .int .u8 n :: l => if n = ((UInt8.ofNat n.toNat).toNat : Int) then (match astr l with
    | some r => some (UInt8.ofNat n.toNat :: r)
    | none => none) else none
  | _ :: _ => none
theorem astr_ok : ∀ (l : List Value) (r : List UInt8), astr l = some r → l = r.map fun x => .int .u8 (x.toNat : Int)
  | [], r, e => by cases e; rfl
  | v :: l, r, e => by
    unfold astr at e
    split at e
    · rename_i h; cases h
    · rename_i n l' h
      cases h
      split at e
      · rename_i hn
        split at e
        · rename_i r' hr
          cases e
          rw [List.map_cons, ← astr_ok _ r' hr, ← hn]
        · cases e
      · cases e
    · cases e
def aunsafeStr (E : Env) (H : AH) (pt : Nat) : Value → Value → Option (Value × AH)
  | .pointer q, .int .i64 n => if n = 0 then some (.string .empty, H) else match q with
    | some ⟨k, 0, none⟩ => match E.und pt, H.t.get k with
      | some (.pointer e), some (.cells c el x true) => match E.info e with
        | some i => bif Nat.beq e el && Nat.beq i.size 1 && decide (0 < n) && decide (n ≤ 1099511627776) && Nat.ble n.toNat c.length then (match astr (c.take n.toNat) with
          | some l => some (.string ⟨l.toArray⟩, H.put k .dead)
          | none => none) else none
        | none => none
      | _, _ => none
    | _ => none
  | _, _ => none
theorem freeze_overN (w : World) {g : Nat} {C : Array Value} {e : TypeId} {fr : Nat × Nat} (hg : w.heap[g]? = some (.cells C e fr)) (i n : Nat) (hn : n ≠ 0) :
    ∃ fr', w.freeze ⟨g, i, none⟩ n = World.over w g (.cells C e fr') := by
  refine ⟨if fr.1 == fr.2 then (i, i + n) else (min fr.1 i, max fr.2 (i + n)), ?_⟩
  unfold World.freeze World.over
  rw [if_neg hn]
  congr 1
  apply Array.ext_getElem?
  intro j
  rw [Array.getElem?_modify, Array.getElem?_setIfInBounds]
  have hlt : g < w.heap.size := (Array.getElem?_eq_some_iff.1 hg).1
  by_cases ej : g = j
  · subst ej
    have hg' : w.heap[g] = .cells C e fr := by rw [Array.getElem?_eq_getElem hlt] at hg; exact Option.some.inj hg
    simp [hlt, hg']
  · simp [ej]
theorem aunsafeStr_ok (hE : E.Ok P) (h : Rel μ H w0 w) {pt it ty : Nat} {x x' y y' r : Value} {H' : AH} (hx : VR μ x x') (hy : VR μ y y') (e : aunsafeStr E H pt x y = some (r, H')) : GotV P (Builtin.unsafeString_ #[pt, it] ty #[x', y']) μ w0 w r H' := by
  unfold aunsafeStr at e
  split at e
  · rename_i q n
    split at e
    · rename_i hn
      subst hn
      cases e
      cases hy
      cases hx with
      | pnil => exact .pure h (Lib.run_unsafeString_none w pt it ty _) (.string _)
      | ptr o hm => exact .pure h (Lib.run_unsafeString_none w pt it ty _) (.string _)
    · rename_i hn
      split at e
      · rename_i k
        split at e
        · rename_i el c el2 xx hu hk
          split at e
          · rename_i i hi
            cases hb : (Nat.beq el el2 && Nat.beq i.size 1 && decide (0 < n) && decide (n ≤ 1099511627776) && Nat.ble n.toNat c.length) with
            | false => rw [hb] at e; cases e
            | true =>
              rw [hb, cond_true] at e
              simp only [Bool.and_eq_true, decide_eq_true_eq] at hb
              obtain ⟨⟨⟨⟨b1, b2⟩, b3⟩, b4⟩, b5⟩ := hb
              have b1 := Nat.eq_of_beq_eq_true b1
              have b2 := Nat.eq_of_beq_eq_true b2
              have b5 := Nat.le_of_ble_eq_true b5
              subst b1
              split at e
              · rename_i l hl
                cases e
                cases hy
                cases hx with
                | @ptr _ g s _ hm =>
                  have hls := astr_ok _ _ hl
                  have hlen : l.length = n.toNat := by
                    have := congrArg List.length hls
                    simp at this; omega
                  obtain ⟨g', s', e1, l1, _⟩ := h.lies k _ hk
                  rw [hm] at e1; cases e1
                  obtain ⟨ob, ho, C, fr, e', rfl, p1, p2, p3, p4, p5⟩ := l1 rfl
                  obtain ⟨he', _⟩ := p2 rfl
                  subst he'
                  have hsz : P.cellsOf e' = 1 := by
                    have := congrArg (fun x => ((x.map TypeInfo.size).getD 0)) (hE.info _ _ hi)
                    exact (show P.cellsOf e' = i.size from this).trans b2
                  have hcell : ∀ (j : Nat) (u : UInt8), l[j]? = some u → w.cell? ((⟨g, 0, none⟩ : Addr).add j) = some (.int .u8 (u.toNat : Int)) := fun j u hj => by
                    have hc : (c.take n.toNat)[j]? = some (.int .u8 (u.toNat : Int)) := by rw [hls, List.getElem?_map, hj]; rfl
                    rw [List.getElem?_take] at hc
                    split at hc
                    · obtain ⟨v', k1, k2⟩ := p5 j _ hc
                      cases k2
                      rw [addr_add, Nat.zero_add]
                      simp [World.cell?, ho, k1]
                    · cases hc
                  have hrun := Lib.run_unsafeString_row (P := P) w pt it ty e' (hE.und _ _ hu) hsz g s (by simp [World.shape?, ho, p1]) l (by intro e0; subst e0; simp at hlen; omega) (by omega) (by omega) hcell
                  obtain ⟨fr', hfr⟩ := freeze_overN w ho 0 l.length (by omega)
                  rw [hfr] at hrun
                  have hnn : (n : Int) = (l.length : Int) := by omega
                  rw [hnn]
                  exact ⟨μ, _, _, hrun, .refl μ, h.bury hk rfl hm _, .string _⟩
              · cases e
          · cases e
        · cases e
      · cases e
  · cases e
/-- Lengths. -/
def alen (E : Env) (H : AH) (t : Nat) (v : Value) : Option Value := match E.und t, v with
  | some (.slice _), .slice _ n _ => some (.int .i64 n)
  | some .string, .string s => some (.int .i64 s.size)
  | some .string, .chan (some 0) => some (.chan (some 1))
  | some (.array n _), _ => some (.int .i64 n)
  | some (.map _ _), .map none => some (.int .i64 0)
  | some (.map _ _), .map (some k) => match H.t.get k with
    | some (.map es _) => some (.int .i64 es.length)
    | _ => none
  | _, _ => none
theorem Rel.map {μ : Mp} {H : AH} {w0 : Base} {w : World} (h : Rel μ H w0 w) {k : Nat} {es : List (Value × Value × Nat)} {n : Nat} (hk : H.t.get k = some (.map es n)) {g s : Nat} (hm : μ k = some (g, s)) :
    ∃ F : Array MapEntry, w.heap[g]? = some (.map F n) ∧ F.size = es.length ∧ ∀ (i : Nat) (e : Value × Value × Nat) (e' : MapEntry), es[i]? = some e → F[i]? = some e' → VR μ e.1 e'.key ∧ VR μ e.2.1 e'.val ∧ e'.born = e.2.2 := by
  obtain ⟨g', s', e1, l1, _⟩ := h.lies k _ hk
  rw [hm] at e1; cases e1
  obtain ⟨o, ho, F, rfl, q1, q2⟩ := l1 rfl
  exact ⟨F, ho, q1, q2⟩
theorem run_getMap {g : Nat} {F : Array MapEntry} {n : Nat} (h : w.heap[g]? = some (.map F n)) : (getObj g).run P w = .ok (.map F n) w := by
  simp only [getObj, Sem.run, h]
theorem alen_ok (hE : E.Ok P) (h : Rel μ H w0 w) {t ty : Nat} {ts : Array TypeId} (ht : ts[0]? = some t) {v v' r : Value} {as : Array Value} (ha : as[0]? = some v') (hv : VR μ v v') (e : alen E H t v = some r) : GotV P (Builtin.len_ ts ty as) μ w0 w r H := by
  have hd : Builtin.len_ ts ty as = Builtin.len_ #[t] ty #[v'] := by
    unfold Builtin.len_
    simp [ht, ha]
  rw [hd]
  unfold alen at e
  split at e
  · rename_i el b n c hu
    cases e
    refine .pure h (v' := .int .i64 n) ?_ (.int _ _)
    cases hv <;> simp [Builtin.len_, run_und hE hu, goInt]
  · rename_i s hu
    cases e; cases hv
    refine .pure h (v' := .int .i64 s.size) ?_ (.int _ _)
    simp [Builtin.len_, run_und hE hu, goInt]
  · rename_i hu
    cases e; cases hv
    rename_i s
    refine .pure h (v' := .int .i64 s.size) ?_ (.unkN _)
    simp [Builtin.len_, run_und hE hu, goInt]
  · rename_i n el hu
    cases e
    refine .pure h (v' := .int .i64 n) ?_ (.int _ _)
    simp [Builtin.len_, run_und hE hu, goInt]
  · rename_i ke el hu
    cases e; cases hv
    refine .pure h (v' := .int .i64 0) ?_ (.int _ _)
    simp [Builtin.len_, run_und hE hu, goInt]
  · rename_i ke el k hu
    split at e
    · rename_i es n hk
      cases e
      cases hv with
      | map hm =>
        obtain ⟨F, hF, hs, _⟩ := h.map hk hm
        refine .pure h (v' := .int .i64 es.length) ?_ (.int _ _)
        simp [Builtin.len_, run_und hE hu, goInt, run_getMap hF, hs]
    · cases e
  · cases e
/-- A new map. -/
def amakeMap (H : AH) : Option (Value × AH) := bif Nat.blt (H.next + 1) 1099511627776 then some (.map (some H.next), H.alloc (.map [] 0)) else none
theorem amakeMap_ok (hE : E.Ok P) (h : Rel μ H w0 w) {t : Nat} {rv : Option Value} (hr : rv = none ∨ ∃ k n d, rv = some (.int k n) ∧ E.und t = some d ∧ ∃ a b, d = .map a b) {v : Value} {H' : AH} (e : amakeMap H = some (v, H')) : GotV P (Instr.makeMap t rv) μ w0 w v H' := by
  unfold amakeMap at e
  cases hb : Nat.blt (H.next + 1) 1099511627776 with
  | false => rw [hb] at e; cases e
  | true =>
    rw [hb] at e; cases e
    have b1 : H.next + 1 < 1099511627776 := Nat.le_of_ble_eq_true hb
    obtain ⟨ν, n1, n2, n3⟩ := h.alloc (by omega) (b := .map [] 0) (o := .map #[] 0) (s := 0) ⟨#[], rfl, rfl, by simp⟩
    refine ⟨ν, .map (some w.heap.size), w.alloc (.map #[] 0), ?_, n1, n3, .map n2⟩
    rcases hr with rfl | ⟨k, n, d, rfl, hu, a, b, rfl⟩
    · simp only [Instr.makeMap, newObj, Sem.run_bind, Sem.run_pure, Sem.run, Result.andThen_ok]; rfl
    · simp only [Instr.makeMap, newObj, Sem.run_bind, Sem.run_pure, Sem.run, Result.andThen_ok, run_und hE hu, asInt, asIntOf]; rfl
end
end AM
end Go.Proofs.YtccnkkffeokgcaaGreatDoor
