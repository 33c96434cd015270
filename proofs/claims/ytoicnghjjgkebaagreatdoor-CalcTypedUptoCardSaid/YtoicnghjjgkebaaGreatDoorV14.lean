/-
  The abstract machine's operations, ninth part: append answers as the model's. No condition.
  The abstract machine's operations, tenth part: maps. No condition.
-/
import Derived.Test.YtoicnghjjgkebaaGreatDoorV12
import Derived.Lib.AppendZerosOnto
set_option linter.unusedSectionVars false
set_option linter.unusedSimpArgs false
set_option linter.unusedVariables false
set_option linter.unnecessarySimpa false
namespace Go.Proofs.YtoicnghjjgkebaaGreatDoor
namespace AM
open Go.RowKit
variable [Toks]

theorem getElem?_setRange : ∀ (vs c : List Value) (o i : Nat), o + vs.length ≤ c.length → (setRange c o vs)[i]? = if o ≤ i ∧ i < o + vs.length then vs[i - o]? else c[i]?
  | [], c, o, i, _ => by simp [setRange]; omega
  | v :: vs, c, o, i, h => by
    simp only [List.length_cons] at h
    rw [setRange, getElem?_setRange vs (c.set o v) (o + 1) i (by simp; omega)]
    by_cases e : i = o
    · subst e
      rw [if_neg (by omega), if_pos (by simp), List.getElem?_set_self (by omega)]
      simp
    · by_cases e2 : o + 1 ≤ i ∧ i < o + 1 + vs.length
      · rw [if_pos e2, if_pos (by simp; omega)]
        obtain ⟨m, rfl⟩ : ∃ m, i = o + 1 + m := ⟨i - (o + 1), by omega⟩
        rw [show o + 1 + m - (o + 1) = m by omega, show o + 1 + m - o = m + 1 by omega]
        simp
      · rw [if_neg e2, if_neg (by simp; omega), List.getElem?_set_ne (fun e3 => e e3.symm)]
theorem over_over (w : World) (g : Nat) (a b : Obj) : World.over (World.over w g a) g b = World.over w g b := by
  unfold World.over
  congr 1
  apply Array.ext_getElem?
  intro j
  rw [Array.getElem?_setIfInBounds, Array.getElem?_setIfInBounds, Array.getElem?_setIfInBounds]
  by_cases e : g = j
  · simp [e]
  · simp [e]
theorem over_self (w : World) {g : Nat} {o : Obj} (h : w.heap[g]? = some o) : World.over w g o = w := by
  unfold World.over
  have : w.heap.setIfInBounds g o = w.heap := by
    apply Array.ext_getElem?
    intro j
    rw [Array.getElem?_setIfInBounds]
    by_cases e : g = j
    · subst e
      have hlt := (Array.getElem?_eq_some_iff.1 h).1
      simp [hlt, h]
      have := (Array.getElem?_eq_some_iff.1 h).2
      exact this.symm
    · simp [e]
  rw [this]
theorem setCells_over (g : Nat) (e : TypeId) (fr : Nat × Nat) : ∀ (vs : List Value) (o : Nat) (w : World) (C : Array Value), w.heap[g]? = some (.cells C e fr) → w.setCells g o vs = World.over w g (.cells (setRange C.toList o vs).toArray e fr)
  | [], o, w, C, h => by
    rw [setRange]
    exact (over_self w (by rw [h])).symm
  | v :: vs, o, w, C, h => by
    have hlt := (Array.getElem?_eq_some_iff.1 h).1
    rw [World.setCells, setCell_over w h, setCells_over g e fr vs (o + 1) _ (C.setIfInBounds o v) (by rw [World.over_get _ _ hlt, if_pos rfl]), over_over]
    simp [setRange]
section
variable {P : Program} {E : Env} {Q : Eqs} {μ : Mp} {H : AH} {w0 : Base} {w : World}
/-- A slice of a new row that may have room for more. -/
def afresh (H : AH) (el size need : Nat) (c : List Value) : Option (Value × AH) :=
  bif Nat.blt (H.next + 1) 1099511627776 then some (.slice (some ⟨H.next, 0, none⟩) need (size * big + need), H.alloc (.cells c el false true)) else none
def agrow (H : AH) (el size : Nat) (base : Option Addr) (sLen cap n : Nat) (news : List Value) : Option (Value × AH) := match base with
  | none => bif Nat.beq sLen 0 then (bif Nat.beq n 0 then some (.slice none 0 cap, H) else bif Nat.blt cap n then afresh H el size n news else none) else none
  | some ⟨k, o, none⟩ => match H.t.get k with
    | some (.cells c el2 ex rw) =>
      bif Nat.ble (sLen + n) (bif Nat.blt cap big then cap else cap % big) then
        (bif rw && Nat.ble (o + (sLen + n) * size) c.length then some (.slice (some ⟨k, o, none⟩) (sLen + n) cap, H.put k (.cells (setRange c (o + sLen * size) news) el2 ex rw)) else none)
      else bif Nat.ble (o + sLen * size) c.length && ((c.drop o).take (sLen * size)).all (·.oneCell') then
        (bif Nat.blt cap big then afresh H el size (sLen + n) ((c.drop o).take (sLen * size) ++ news)
        else bif Nat.beq (cap / big) size && Nat.beq o 0 && rw && Nat.beq el2 el then afresh (H.put k .dead) el size (sLen + n) ((c.drop o).take (sLen * size) ++ news)
        else none)
      else none
    | _ => none
  | _ => none
def kindFits : TypeDesc → Value → Bool
  | .slice _, .slice _ _ _ => true
  | .string, .string _ => true
  | _, _ => false
def isZerosK : TypeDesc → Bool
  | .int _ => true
  | _ => false
def azeros (H : AH) (el : Nat) (i : TypeInfo) (z : Value) : Value → Value → Option (Value × AH)
  | .slice base sLen cap, .int _ m => bif Nat.beq z.cells.size i.size && Nat.blt 0 i.size && Nat.ble i.bytes 1048576 && Nat.ble (sLen + m.toNat) 1048576 && decide (0 ≤ m) && (arep z.cells (m.toNat * i.size)).all (cval 6) && (arep z.cells (m.toNat * i.size)).all (·.oneCell') then
      agrow H el i.size base sLen cap m.toNat (arep z.cells (m.toNat * i.size)) else none
  | _, _ => none
def aappend (E : Env) (H : AH) (t tx : Nat) (s x : Value) : Option (Value × AH) := match E.und t, E.und tx with
  | some (.slice el), some dx => match E.info el with
    | some i => match i.zero with
      | some z => bif isZerosK dx then azeros H el i z s x else bif kindFits dx x && Nat.beq z.cells.size i.size && Nat.blt 0 i.size && Nat.ble i.bytes 1048576 then (match acells H i.size x, s with
        | some (n, news), .slice base sLen cap => bif Nat.ble (sLen + n) 1048576 && news.all (·.oneCell') then agrow H el i.size base sLen cap n news else none
        | _, _ => none) else none
      | none => none
    | none => none
  | _, _ => none
theorem grown_ge (w : World) (need old : Nat) (e : TypeId) : need ≤ grownCap w need old e := by
  unfold grownCap
  simp only [Question.cut]
  omega
theorem size_zeroCells (z : Array Value) (n : Nat) : (Builtin.zeroCells z n).size = n * z.size := by
  simp [Builtin.zeroCells]
theorem Rel.len_le (h : Rel μ H w0 w) {k : Nat} {c : List Value} {e : TypeId} {x rw : Bool} (hk : H.t.get k = some (.cells c e x rw)) {g s : Nat} (hm : μ k = some (g, s)) : c.length ≤ s := by
  obtain ⟨g', s', e1, l1, _⟩ := h.lies k _ hk
  rw [hm] at e1; cases e1
  obtain ⟨ob, ho, C, fr, e', rfl, p1, p2, p3, p4, p5⟩ := l1 rfl
  exact p4
theorem Rel.there (h : Rel μ H w0 w) {k : Nat} {c : List Value} {e : TypeId} {x : Bool} (hk : H.t.get k = some (.cells c e x true)) {g s : Nat} (hm : μ k = some (g, s)) (i : Nat) (hi : i < s) :
    (w.cell? ⟨g, i, none⟩).isSome = true ∧ w.frozen? ⟨g, i, none⟩ = false := by
  obtain ⟨g', s', e1, l1, _⟩ := h.lies k _ hk
  rw [hm] at e1; cases e1
  obtain ⟨ob, ho, C, fr, e', rfl, p1, p2, p3, p4, p5⟩ := l1 rfl
  have hiC : i < C.size := by omega
  refine ⟨by simp [World.cell?, ho, hiC], ?_⟩
  obtain ⟨lo, hi'⟩ := fr
  simp only [World.frozen?, ho]
  rcases (p2 rfl).2 with e | e
  · cases e; simp
  · rw [Bool.and_eq_false_iff]; left; rw [decide_eq_false_iff_not]; simp only at e; omega
/-- A new row. -/
theorem afresh_ok (h : Rel μ H w0 w) {el size need cap : Nat} {c c' : List Value} {r : Value} {H' : AH} (hc : LR μ c c') {z : Array Value} (hz : z.size = size) (hs : 0 < size) (hl : c.length = need * size) (hcap : need ≤ cap) (hnb : need < big) (e : afresh H el size need c = some (r, H')) :
    ∃ ν, μ.le ν ∧ Rel ν H' w0 (w.drew.alloc (.cells (c'.toArray ++ Builtin.zeroCells z (cap - need)) el)) ∧ VR ν r (.slice (some ⟨w.heap.size, 0, none⟩) need cap) := by
  unfold afresh at e
  cases hb : Nat.blt (H.next + 1) 1099511627776 with
  | false => rw [hb] at e; cases e
  | true =>
    rw [hb] at e
    simp only [cond_true, Option.some.injEq, Prod.mk.injEq] at e
    obtain ⟨rfl, rfl⟩ := e
    have b1 : H.next + 1 < 1099511627776 := Nat.le_of_ble_eq_true hb
    have hcl := hc.1
    have hmul : need * size ≤ cap * size := Nat.mul_le_mul_right _ hcap
    have hsz : (c'.toArray ++ Builtin.zeroCells z (cap - need)).size = cap * size := by
      rw [Array.size_append, size_zeroCells, hz, Nat.sub_mul]
      simp only [List.size_toArray]
      omega
    obtain ⟨ν, n1, n2, n3⟩ := h.drew.alloc (by omega) (b := .cells c el false true) (o := .cells (c'.toArray ++ Builtin.zeroCells z (cap - need)) el) (s := cap * size)
      ⟨_, (0, 0), el, rfl, hsz, fun _ => ⟨rfl, .inl rfl⟩, (fun e => by cases e), (by omega), fun i v hv => by
        obtain ⟨v', h1, h2⟩ := hc.get hv
        refine ⟨v', ?_, h2⟩
        have hi : i < c'.length := (List.getElem?_eq_some_iff.1 h1).1
        rw [Array.getElem?_append_left (by simpa using hi)]
        simpa using h1⟩
    exact ⟨ν, n1, n3, .slx 0 need need cap size n2 (by omega) hs (Nat.le_refl _) hcap hnb⟩
/-- How news are appended. -/
structure App (P : Program) (t tx ty el : TypeId) (i : TypeInfo) (z : Value) (x' : Value) (n : Nat) (news' : List Value) (w : World) : Prop where
  one : ∀ u ∈ news', u.oneCell' = true
  zero : n = 0 → ∀ cap, (Builtin.append_ #[t, tx] ty #[.slice none 0 cap, x']).run P w = .ok (.slice none 0 cap) w
  room : ∀ b off sLen sCap, sLen + n ≤ sCap → (∀ j, j < news'.length → (w.cell? ⟨b, off + sLen * i.size + j, none⟩).isSome = true) → (∀ j, j < news'.length → w.frozen? ⟨b, off + sLen * i.size + j, none⟩ = false) →
    (Builtin.append_ #[t, tx] ty #[.slice (some ⟨b, off, none⟩) sLen sCap, x']).run P w = .ok (.slice (some ⟨b, off, none⟩) (sLen + n) sCap) (w.setCells b (off + sLen * i.size) news')
  grow : ∀ (base : Option Addr) (sLen sCap : Nat) (olds : List Value), (Builtin.firstCells i.size sLen (.slice base sLen sCap)).run P w.drew = .ok olds.toArray w.drew → sCap < sLen + n → ((sLen + n : Nat) : Int) ≤ 9223372036854775807 →
    Builtin.nextslicecap (sLen + n) sCap * i.bytes ≤ 281474976710656 → (Builtin.append_ #[t, tx] ty #[.slice base sLen sCap, x']).run P w =
      .ok (.slice (some ⟨w.heap.size, 0, none⟩) (sLen + n) (grownCap w (sLen + n) sCap el))
        (w.drew.alloc (.cells ((olds ++ news').toArray ++ Builtin.zeroCells z.cells (grownCap w (sLen + n) sCap el - (sLen + n))) el))
theorem App.src {t tx ty el : TypeId} {i : TypeInfo} {z x' : Value} {n : Nat} {news' : List Value} (hu : P.underlying t = some (.slice el)) (hi : P.info? el = some i) (hz : i.zero = some z) (hs : Src P i.size tx x' n news' w) : App P t tx ty el i z x' n news' w where
  one := hs.one
  zero hn cap := by
    subst hn
    have hnl : news' = [] := by
      have := hs.newsLen
      simp at this
      exact this
    subst hnl
    rcases hs.kind with ⟨e', hk⟩ | hk <;> simp [Builtin.append_, run_underlying hu, run_underlying hk, Go.sizeOf, typeInfo, hi, hs.len, hs.cells]
  room b off sLen sCap := run_append_room_src w t tx ty el i hu hi b off sLen sCap x' n news' hs
  grow base sLen sCap olds hold := run_append_grow_src w t tx ty el i z hu hi hz base sLen sCap olds hold x' n news' hs
theorem zeroCells_arep (z : Array Value) (n : Nat) : (Builtin.zeroCells z n).toList = arep z (n * z.size) := by
  unfold Builtin.zeroCells
  rw [arep_eq]
theorem App.zeros {t tx ty el : TypeId} {i : TypeInfo} {z : Value} {kk : IntKind} {m : Int} {dk : IntKind} (hu : P.underlying t = some (.slice el)) (hux : P.underlying tx = some (.int dk)) (hi : P.info? el = some i) (hz : i.zero = some z) (hs : z.cells.size = i.size) (h0 : 0 < i.size)
    (hm : 0 ≤ m) (hm2 : m ≤ 1048576) (hb : i.bytes ≤ 1048576) (hone : (arep z.cells (m.toNat * i.size)).all (·.oneCell') = true) : App P t tx ty el i z (.int kk m) m.toNat (arep z.cells (m.toNat * i.size)) w := by
  obtain ⟨k, rfl⟩ : ∃ k : Nat, m = k := ⟨m.toNat, by omega⟩
  simp only [Int.toNat_natCast] at *
  have hw : IntKind.i64.wrap (k : Int) = k := wrap_small (by omega) (by omega)
  have hw0 : IntKind.i64.wrap 0 = 0 := wrap_small (by omega) (by omega)
  have hneg : ¬ ((k : Int) < 0) := by omega
  have hmul : k * i.bytes ≤ 1048576 * 1048576 := Nat.mul_le_mul (by omega) hb
  have h48i : ¬ (281474976710656 < (k : Int) * (i.bytes : Int)) := by
    rw [← Int.natCast_mul]
    omega
  have hz2 : arep z.cells (k * i.size) = (Builtin.zeroCells z.cells k).toList := by rw [zeroCells_arep, hs]
  have hone' : ∀ u ∈ arep z.cells (k * i.size), u.oneCell' = true := fun u hu => List.all_eq_true.1 hone u hu
  refine ⟨hone', ?_, ?_, ?_⟩
  · rintro rfl cap
    simp [Builtin.append_, run_underlying hu, run_underlying hux, Go.sizeOf, typeInfo, hi, asInt, asIntOf, hw0]
  · intro b off sLen sCap hroom hc hf
    have hst := run_storeCells_cells (P := P) b (off + sLen * i.size) _ 0 w (by simpa using hc) (by simpa using hf) hone'
    simp only [Nat.add_zero] at hst
    by_cases hk : k = 0
    · subst hk
      rw [Nat.zero_mul] at hst ⊢
      have hroom0 : sLen ≤ sCap := hroom
      simp [Builtin.append_, run_underlying hu, run_underlying hux, Go.sizeOf, typeInfo, zeroValue, hi, hz, asInt, asIntOf, hw0, hroom0, Addr.add_lit, arep]
      simp [arep] at hst
      rw [hst]; rfl
    · have hns : ¬ (k * i.size = 0) := Nat.mul_ne_zero hk (by omega)
      rw [hz2] at hst ⊢
      simp [Builtin.append_, run_underlying hu, run_underlying hux, Go.sizeOf, typeInfo, zeroValue, hi, hz, asInt, asIntOf, hw, hneg, hns, h48i, hroom, Addr.add_lit]
      rw [hst]; rfl
  · intro base sLen sCap olds hold hg h63 hfit
    by_cases hk : k = 0
    · subst hk
      have hn : ¬ (sLen + 0 ≤ sCap) := by omega
      have h63' : ¬ (9223372036854775807 < ((sLen : Int) + ((0 : Nat) : Int))) := by omega
      have h48' : ¬ (281474976710656 < Builtin.nextslicecap (sLen + 0) sCap * i.bytes) := by omega
      simp only [Nat.add_zero] at *
      simp [Builtin.append_, run_underlying hu, run_underlying hux, Go.sizeOf, typeInfo, zeroValue, hi, hz, asInt, asIntOf, hw0, hn, h63', h48', Question.forced, hold, newRow, grownCap, arep]
      try omega
    · rw [Lib.run_append_grow_zeros w t tx ty el i z kk dk hu hux hi hz base sLen sCap olds hold k (by omega) h0 hg h63 (by omega) hfit, hz2]
      congr 3
      apply Array.ext'
      simp
theorem agrow_ok (h : Rel μ H w0 w) {t tx ty el : Nat} {s' x' r : Value} {H' : AH} {base : Option Addr} {sLen cap n : Nat} {news news' : List Value} {i : TypeInfo} {z : Value} (hs : VR μ (.slice base sLen cap) s') (b2 : z.cells.size = i.size) (b3 : 0 < i.size) (b4 : i.bytes ≤ 1048576) (c1 : sLen + n ≤ 1048576) (c2 : news.all (·.oneCell') = true) (hl : news.length = n * i.size)
    (hnr : LR μ news news') (A : App P t tx ty el i z x' n news' w) (e : agrow H el i.size base sLen cap n news = some (r, H')) : GotV P (Builtin.append_ #[t, tx] ty #[s', x']) μ w0 w r H' := by
  have hfit : ∀ sCap, sCap < sLen + n → Builtin.nextslicecap (sLen + n) sCap * i.bytes ≤ 281474976710656 := fun sCap hlt => by
    have h1 := nextslicecap_le (sLen + n) sCap hlt
    have h2 : Builtin.nextslicecap (sLen + n) sCap ≤ 2097664 := by omega
    calc Builtin.nextslicecap (sLen + n) sCap * i.bytes ≤ 2097664 * 1048576 := Nat.mul_le_mul h2 b4
      _ ≤ 281474976710656 := by decide
  have hnb : sLen + n < big := by unfold big; omega
  unfold agrow at e
  split at e
  · -- nil
    cases hs
    cases hz0 : Nat.beq sLen 0 with
    | false => rw [hz0] at e; cases e
    | true =>
      rw [hz0, cond_true] at e
      have hz0 := Nat.eq_of_beq_eq_true hz0
      subst hz0
      cases hn0 : Nat.beq n 0 with
      | true =>
        rw [hn0, cond_true] at e
        have hn0 := Nat.eq_of_beq_eq_true hn0
        subst hn0
        cases e
        refine .pure h (v' := .slice none 0 cap) ?_ (.snil _ _)
        exact A.zero rfl cap
      | false =>
        rw [hn0, cond_false] at e
        cases hcn : Nat.blt cap n with
        | false => rw [hcn] at e; cases e
        | true =>
          rw [hcn, cond_true] at e
          have hcn : cap < n := Nat.le_of_ble_eq_true hcn
          have hg := A.grow none 0 cap [] (by simp [Builtin.firstCells]) (by omega) (by omega) (hfit cap (by omega))
          obtain ⟨ν, n1, n2, n3⟩ := afresh_ok h (cap := grownCap w (0 + n) cap el) hnr b2 b3 hl (by have := grown_ge w (0 + n) cap el; omega) (by omega) e
          refine ⟨ν, _, _, hg, n1, ?_, ?_⟩
          · simpa using n2
          · simpa using n3
  · rename_i k o
    split at e
    · rename_i c el2 ex rw hk
      have key : ∀ g s c', μ k = some (g, s) → (bif Nat.blt cap big then cap else cap % big) ≤ c' → (Nat.blt cap big = true → c' = cap) → (Nat.blt cap big = false → cap / big = i.size → o + c' * i.size = s) →
          (∀ nn, nn ≤ (bif Nat.blt cap big then cap else cap % big) → VR μ (.slice (some ⟨k, o, none⟩) nn cap) (.slice (some ⟨g, o, none⟩) nn c')) → GotV P (Builtin.append_ #[t, tx] ty #[.slice (some ⟨g, o, none⟩) sLen c', x']) μ w0 w r H' := by
        intro g s c' hm hlim hex hin hvr
        cases hr : Nat.ble (sLen + n) (bif Nat.blt cap big then cap else cap % big) with
        | true =>
          rw [hr, cond_true] at e
          have hr := Nat.le_of_ble_eq_true hr
          cases hrw : (rw && Nat.ble (o + (sLen + n) * i.size) c.length) with
          | false => rw [hrw] at e; cases e
          | true =>
            rw [hrw, cond_true] at e
            simp only [Option.some.injEq, Prod.mk.injEq] at e
            obtain ⟨rfl, rfl⟩ := e
            simp only [Bool.and_eq_true] at hrw
            obtain ⟨rfl, hble⟩ := hrw
            have hble := Nat.le_of_ble_eq_true hble
            rw [Nat.add_mul] at hble
            have hnl : news'.length = n * i.size := by rw [← hnr.1]; exact hl
            have hth := h.there hk hm
            have hsl := h.len_le hk hm
            have h1 : ∀ j, j < news'.length → (w.cell? ⟨g, o + sLen * i.size + j, none⟩).isSome = true := fun j hj => (hth _ (by omega)).1
            have h2 : ∀ j, j < news'.length → w.frozen? ⟨g, o + sLen * i.size + j, none⟩ = false := fun j hj => (hth _ (by omega)).2
            have hrun := A.room g o sLen c' (by omega) h1 h2
            obtain ⟨w', r1, r2⟩ := Rel.stores (P := P) hm news news' H c w 0 (o + sLen * i.size) h hk hnr c2 (by omega)
            have hst := run_storeCells_cells (P := P) g (o + sLen * i.size) news' 0 w (by simpa using h1) (by simpa using h2) A.one
            rw [hst] at r1
            simp only [Nat.add_zero, Result.ok.injEq, true_and] at r1
            subst r1
            exact ⟨μ, _, _, hrun, .refl μ, by simpa using r2, hvr _ hr⟩
        | false =>
          rw [hr, cond_false] at e
          have hr : ¬ (sLen + n ≤ (bif Nat.blt cap big then cap else cap % big)) := fun hle => by rw [Nat.ble_eq_true_of_le hle] at hr; cases hr
          cases hco : (Nat.ble (o + sLen * i.size) c.length && ((c.drop o).take (sLen * i.size)).all (·.oneCell')) with
          | false => rw [hco] at e; cases e
          | true =>
            rw [hco, cond_true] at e
            simp only [Bool.and_eq_true] at hco
            have hco1 := Nat.le_of_ble_eq_true hco.1
            obtain ⟨l', q1, q2, q3⟩ := h.row hk hm o (sLen * i.size) hco1
            have hol : ((c.drop o).take (sLen * i.size)).length = sLen * i.size := by rw [q1.1]; exact q2
            have hlen : ((c.drop o).take (sLen * i.size) ++ news).length = (sLen + n) * i.size := by rw [List.length_append, hol, hl, Nat.add_mul]
            have hold : ∀ cc, (Builtin.firstCells i.size sLen (.slice (some ⟨g, o, none⟩) sLen cc)).run P w.drew = .ok l'.toArray w.drew := fun cc =>
              run_firstCells_some w.drew i.size sLen _ sLen cc l' q2 (fun j u hj => by rw [addr_add]; exact q3 j u hj)
            cases hcb : Nat.blt cap big with
            | true =>
              rw [hcb, cond_true] at e hr
              have := hex hcb
              subst this
              have hg := A.grow (some ⟨g, o, none⟩) sLen c' l' (hold _) (by omega) (by omega) (hfit c' (by omega))
              obtain ⟨ν, n1, n2, n3⟩ := afresh_ok h (cap := grownCap w (sLen + n) c' el) (q1.append hnr) b2 b3 hlen (grown_ge w (sLen + n) c' el) hnb e
              exact ⟨ν, _, _, hg, n1, n2, n3⟩
            | false =>
              rw [hcb, cond_false] at e
              cases hcd : (Nat.beq (cap / big) i.size && Nat.beq o 0 && rw && Nat.beq el2 el) with
              | false => rw [hcd] at e; cases e
              | true =>
                rw [hcd, cond_true] at e
                simp only [Bool.and_eq_true] at hcd
                obtain ⟨⟨⟨d1, d2⟩, rfl⟩, d4⟩ := hcd
                have d1 := Nat.eq_of_beq_eq_true d1
                have d2 := Nat.eq_of_beq_eq_true d2
                have d4 := Nat.eq_of_beq_eq_true d4
                subst d2
                subst d4
                have hs0 := hin hcb d1
                by_cases hroom : sLen + n ≤ c'
                · have hnl : news'.length = n * i.size := by rw [← hnr.1]; exact hl
                  have hth := h.there hk hm
                  have hmul : (sLen + n) * i.size ≤ c' * i.size := Nat.mul_le_mul_right _ hroom
                  rw [Nat.add_mul] at hmul
                  have h1 : ∀ j, j < news'.length → (w.cell? ⟨g, 0 + sLen * i.size + j, none⟩).isSome = true := fun j hj => (hth _ (by omega)).1
                  have h2 : ∀ j, j < news'.length → w.frozen? ⟨g, 0 + sLen * i.size + j, none⟩ = false := fun j hj => (hth _ (by omega)).2
                  have hrun := A.room g 0 sLen c' hroom h1 h2
                  obtain ⟨g', s', e1, l1, _⟩ := h.lies k _ hk
                  rw [hm] at e1; cases e1
                  obtain ⟨ob, ho, C, fr, e', rfl, p1, p2, p3, p4, p5⟩ := l1 rfl
                  obtain ⟨he', p2⟩ := p2 rfl
                  rw [he'] at ho
                  have hCl : C.toList.length = s := by rw [Array.length_toList]; exact p1
                  rw [setCells_over g el2 fr news' _ w C ho] at hrun
                  unfold afresh at e
                  cases hnx : Nat.blt ((H.put k .dead).next + 1) 1099511627776 with
                  | false => rw [hnx] at e; cases e
                  | true =>
                    rw [hnx] at e
                    simp only [cond_true, Option.some.injEq, Prod.mk.injEq] at e
                    obtain ⟨rfl, rfl⟩ := e
                    have hnx : H.next + 1 < 1099511627776 := Nat.le_of_ble_eq_true hnx
                    obtain ⟨ν, n1, n2, n3⟩ := h.hand (by omega) hk rfl hm (b' := .cells ((c.drop 0).take (sLen * i.size) ++ news) el2 false true) (o := .cells (setRange C.toList (0 + sLen * i.size) news').toArray el2 fr)
                      ⟨_, fr, el2, rfl, by rw [List.size_toArray, length_setRange]; exact hCl, fun _ => ⟨rfl, p2⟩, (fun e => by cases e), (by rw [hlen, Nat.add_mul]; omega), fun j v hv => by
                        have hgs := getElem?_setRange news' C.toList (0 + sLen * i.size) j (by omega)
                        rw [List.getElem?_toArray, hgs]
                        by_cases hj : j < sLen * i.size
                        · rw [if_neg (by omega)]
                          rw [List.getElem?_append_left (by omega), List.getElem?_take, if_pos hj, List.getElem?_drop] at hv
                          obtain ⟨u, hu1, hu2⟩ := p5 _ v hv
                          simp only [Nat.zero_add] at hu1
                          exact ⟨u, by rw [Array.getElem?_toList]; exact hu1, hu2⟩
                        · rw [List.getElem?_append_right (by omega), hol] at hv
                          obtain ⟨u, hu1, hu2⟩ := hnr.get hv
                          have hjl := (List.getElem?_eq_some_iff.1 hu1).1
                          rw [if_pos (by omega)]
                          exact ⟨u, by rw [← hu1]; congr 1; omega, hu2⟩⟩
                    exact ⟨ν, _, _, hrun, n1, n3, .slx 0 (sLen + n) (sLen + n) c' i.size n2 hs0 b3 (Nat.le_refl _) hroom hnb⟩
                · have hg := A.grow (some ⟨g, 0, none⟩) sLen c' l' (hold _) (by omega) (by omega) (hfit c' (by omega))
                  obtain ⟨ν, n1, n2, n3⟩ := afresh_ok (h.kill hk) (cap := grownCap w (sLen + n) c' el2) (q1.append hnr) b2 b3 hlen (grown_ge w (sLen + n) c' el2) hnb e
                  exact ⟨ν, _, _, hg, n1, n2, n3⟩
      cases hs with
      | @sl _ g s _ _ _ hm hlt =>
        have hcb : Nat.blt cap big = true := Nat.ble_eq_true_of_le hlt
        exact key g s cap hm (by rw [hcb]; exact Nat.le_refl _) (fun _ => rfl) (fun hf => by rw [hcb] at hf; cases hf) (fun nn _ => .sl _ _ _ hm hlt)
      | @slx _ g s _ _ c0 c' ez hm a1 a2 a3 a4 a5 =>
        have hcb : Nat.blt (ez * big + c0) big = false := by
          cases hq : Nat.blt (ez * big + c0) big with
          | false => rfl
          | true =>
            have : ez * big + c0 < big := Nat.le_of_ble_eq_true hq
            have : big ≤ ez * big := Nat.le_mul_of_pos_left _ a2
            omega
        refine key g s c' hm (by rw [hcb, cond_false, (div_big a5).2]; exact a4) (fun hf => by rw [hcb] at hf; cases hf) (fun _ hdiv => by rw [(div_big a5).1] at hdiv; rw [← hdiv]; exact a1) (fun nn hle => ?_)
        rw [hcb, cond_false, (div_big a5).2] at hle
        exact .slx _ _ _ _ _ hm a1 a2 hle a4 a5
    · cases e
  · cases e
theorem aappend_ok (hE : E.Ok P) (h : Rel μ H w0 w) {t tx ty : Nat} {s s' x x' r : Value} {H' : AH} (hs : VR μ s s') (hx : VR μ x x') (e : aappend E H t tx s x = some (r, H')) : GotV P (Builtin.append_ #[t, tx] ty #[s', x']) μ w0 w r H' := by
  unfold aappend at e
  split at e
  · rename_i el dx hu hux
    split at e
    · rename_i i hi
      split at e
      · rename_i z hz
        cases hzk : isZerosK dx with
        | true =>
          rw [hzk, cond_true] at e
          obtain ⟨dk, rfl⟩ : ∃ dk, dx = .int dk := by
            unfold isZerosK at hzk
            split at hzk
            · exact ⟨_, rfl⟩
            · cases hzk
          unfold azeros at e
          split at e
          · rename_i base sLen cap kk m
            cases hx
            cases hb : (Nat.beq z.cells.size i.size && Nat.blt 0 i.size && Nat.ble i.bytes 1048576 && Nat.ble (sLen + m.toNat) 1048576 && decide (0 ≤ m) && (arep z.cells (m.toNat * i.size)).all (cval 6) && (arep z.cells (m.toNat * i.size)).all (·.oneCell')) with
            | false => rw [hb] at e; cases e
            | true =>
              rw [hb, cond_true] at e
              simp only [Bool.and_eq_true, decide_eq_true_eq] at hb
              obtain ⟨⟨⟨⟨⟨⟨b1, b2⟩, b3⟩, b4⟩, b5⟩, b6⟩, b7⟩ := hb
              have b1 := Nat.eq_of_beq_eq_true b1
              have b2 : 0 < i.size := Nat.le_of_ble_eq_true b2
              have b3 := Nat.le_of_ble_eq_true b3
              have b4 := Nat.le_of_ble_eq_true b4
              have hlen : (arep z.cells (m.toNat * i.size)).length = m.toNat * i.size := by rw [← arep_eq]; simp
              exact agrow_ok h hs b1 b2 b3 b4 b7 hlen (LR.refl_of b6) (App.zeros (hE.und _ _ hu) (hE.und _ _ hux) (hE.info _ _ hi) hz b1 b2 b5 (by omega) b3 b7) e
          · cases e
        | false =>
        rw [hzk, cond_false] at e
        cases hb : (kindFits dx x && Nat.beq z.cells.size i.size && Nat.blt 0 i.size && Nat.ble i.bytes 1048576) with
        | false => rw [hb] at e; cases e
        | true =>
          rw [hb, cond_true] at e
          simp only [Bool.and_eq_true] at hb
          obtain ⟨⟨⟨b1, b2⟩, b3⟩, b4⟩ := hb
          have b2 := Nat.eq_of_beq_eq_true b2
          have b3 : 0 < i.size := Nat.le_of_ble_eq_true b3
          have b4 := Nat.le_of_ble_eq_true b4
          split at e
          · rename_i n news base sLen cap hn
            cases hc : (Nat.ble (sLen + n) 1048576 && news.all (·.oneCell')) with
            | false => rw [hc] at e; cases e
            | true =>
              rw [hc, cond_true] at e
              simp only [Bool.and_eq_true] at hc
              obtain ⟨c1, c2⟩ := hc
              have c1 := Nat.le_of_ble_eq_true c1
              have hkf : ((∃ e', dx = .slice e') ∨ dx = .string) ∧ (∀ s, x = .string s → dx = .string) ∧ (∀ a n c, x = .slice a n c → ∃ e', dx = .slice e') := by
                unfold kindFits at b1
                split at b1
                · exact ⟨.inl ⟨_, rfl⟩, fun s hs => by (first | cases hs | (subst hs; contradiction)), fun _ _ _ _ => ⟨_, rfl⟩⟩
                · exact ⟨.inr rfl, fun _ _ => rfl, fun a n c hs => by cases hs⟩
                · cases b1
              obtain ⟨hl, news', hnr, hsrc⟩ := acells_ok hE h hux hkf.1 hkf.2.1 hkf.2.2 hx hn c2
              exact agrow_ok h hs b2 b3 b4 c1 c2 hl hnr (.src (hE.und _ _ hu) (hE.info _ _ hi) hz hsrc) e
          · cases e
      · cases e
    · cases e
  · cases e
end
end AM
end Go.Proofs.YtoicnghjjgkebaaGreatDoor
namespace Go.Proofs.YtoicnghjjgkebaaGreatDoor
namespace AM
open Go.RowKit
variable [Toks]

theorem cval_eq {μ : Mp} : ∀ (n : Nat) (v v' : Value), cval n v = true → VR μ v v' → v' = v
  | 0, v, v', h, _ => by simp [cval] at h
  | n + 1, v, v', h, hv => by
    have row : ∀ {cs cs' : Array Value}, cs.toList.all (cval n) = true → cs.size = cs'.size → (∀ (i : Nat) (v v' : Value), cs[i]? = some v → cs'[i]? = some v' → VR μ v v') → cs' = cs := by
      intro cs cs' h1 h2 h3
      apply Array.ext (by omega)
      intro i hi1 hi2
      have hm : cs[i] ∈ cs.toList := Array.getElem_mem_toList hi2
      exact cval_eq n _ _ (List.all_eq_true.1 h1 _ hm) (h3 i _ _ (Array.getElem?_eq_getElem hi2) (Array.getElem?_eq_getElem hi1))
    cases hv with
    | bool b => rfl
    | int k m => rfl
    | string s => rfl
    | pnil => rfl
    | ptr o e => simp [cval] at h
    | snil m c => rfl
    | sl o m c e e2 => simp [cval] at h
    | slx o m c c' e a1 a2 a3 a4 a5 a6 => simp [cval] at h
    | mnil => rfl
    | map e => simp [cval] at h
    | nilFunc => rfl
    | nilIface => rfl
    | iface t hv => rw [cval_eq n _ _ (by simpa only [cval] using h) hv]
    | func f h1 h2 h3 h4 =>
      simp only [cval, Bool.and_eq_true, List.isEmpty_iff, Array.toList_eq_nil_iff] at h
      obtain ⟨rfl, rfl⟩ := h
      have e1 := Array.eq_empty_of_size_eq_zero h1.symm
      have e2 := Array.eq_empty_of_size_eq_zero h3.symm
      rw [e1, e2]
    | yield e => simp [cval] at h
    | agg h1 h2 => rw [row (by simpa only [cval] using h) h1 h2]
    | tuple h1 h2 => rw [row (by simpa only [cval] using h) h1 h2]
    | unkI k n => simp [cval] at h
    | unkS s => simp [cval] at h
    | unkN n => simp [cval] at h
    | unkB b => simp [cval] at h
    | tokI q k => simp [cval] at h
    | tokS q k => simp [cval] at h
    | tokB q k => simp [cval] at h
section
variable {P : Program} {E : Env} {Q : Eqs} {μ : Mp} {H : AH} {w0 : Base} {w : World}
/-- May a value be a key? -/
def acheckFields (E : Env) (chk : Nat → Value → Bool) (cs : List Value) : List Field → Bool
  | [] => true
  | f :: fs => bif f.name == "_" then acheckFields E chk cs fs else match apart E f.type cs f.offset with
    | some v => chk f.type v && acheckFields E chk cs fs
    | none => false
def acheckElems (E : Env) (chk : Nat → Value → Bool) (el sz : Nat) (cs : List Value) : List Nat → Bool
  | [] => true
  | i :: l => match apart E el cs (i * sz) with
    | some v => chk el v && acheckElems E chk el sz cs l
    | none => false
def acheck (E : Env) : Nat → Nat → Value → Bool
  | 0, _, _ => false
  | d + 1, t, v => match E.und t, v with
    | some (.int _), _ | some .string, _ | some .bool, _ => true
    | some (.struct fs), .agg cs => acheckFields E (acheck E d) cs.toList fs.toList
    | some (.array n el), .agg cs => match E.info el with
      | some i => acheckElems E (acheck E d) el i.size cs.toList (List.range' 0 n)
      | none => false
    | _, _ => false
theorem acheck_ok (hE : E.Ok P) : ∀ (d t : Nat) (v v' : Value) (D : Nat) (em : Bool), d ≤ D → VR μ v v' → acheck E d t v = true → (Instr.checkKey em D t v').run P w = .ok () w
  | 0, _, _, _, _, _, _, _, e => by simp [acheck] at e
  | d + 1, _, _, _, 0, _, hD, _, _ => by omega
  | d + 1, t, v, v', D + 1, em, hD, hv, e => by
    simp only [acheck] at e
    split at e
    · rename_i hu
      simp only [Instr.checkKey, Sem.run_bind, run_und hE hu, Result.andThen_ok, Sem.run_pure]
    · rename_i hu
      simp only [Instr.checkKey, Sem.run_bind, run_und hE hu, Result.andThen_ok, Sem.run_pure]
    · rename_i hu
      simp only [Instr.checkKey, Sem.run_bind, run_und hE hu, Result.andThen_ok, Sem.run_pure]
    · rename_i fs cs hu
      cases hv with
      | agg h1 h2 =>
        simp only [Instr.checkKey, Sem.run_bind, run_und hE hu, Result.andThen_ok]
        rw [← Array.forIn_toList]
        have hc := fun t v v' hv hc => acheck_ok hE d t v v' D em (by omega) hv hc
        have hr : AR μ cs _ := ⟨h1, h2⟩
        clear hu
        revert e
        generalize fs.toList = l
        intro e
        induction l with
        | nil => rfl
        | cons f fs ih =>
          simp only [acheckFields] at e
          cases hn : (f.name == "_") with
          | true =>
            rw [hn, cond_true] at e
            have hn' : f.name = "_" := by simpa using hn
            simp only [List.forIn_cons, hn', ne_eq, not_true_eq_false, if_false, Sem.run_bind, Sem.run_pure, Result.andThen_ok]
            exact ih e
          | false =>
            rw [hn, cond_false] at e
            have hn' : f.name ≠ "_" := by simpa using hn
            split at e
            · rename_i v hv
              rw [Bool.and_eq_true] at e
              obtain ⟨v', r1, r2⟩ := apart_ok hE hr hv w
              simp only [List.forIn_cons, if_pos hn', Sem.run_bind, Sem.run_pure, r1, Result.andThen_ok, hc _ _ _ r2 e.1]
              exact ih e.2
            · cases e
    · rename_i n el cs hu
      cases hv with
      | agg h1 h2 =>
        split at e
        · rename_i inf hinf
          simp only [Instr.checkKey, Sem.run_bind, run_und hE hu, Result.andThen_ok]
          have hc := fun t v v' hv hc => acheck_ok hE d t v v' D em (by omega) hv hc
          have hr : AR μ cs _ := ⟨h1, h2⟩
          simp only [Std.Legacy.Range.forIn_eq_forIn_range', Std.Legacy.Range.size, Nat.sub_zero, Nat.add_one_sub_one, Nat.div_one]
          clear hu
          revert e
          generalize List.range' 0 n = l
          intro e
          induction l with
          | nil => rfl
          | cons i l ih =>
            simp only [acheckElems] at e
            split at e
            · rename_i v hv
              rw [Bool.and_eq_true] at e
              obtain ⟨v', r1, r2⟩ := apart_ok hE hr hv w
              simp only [List.forIn_cons, Sem.run_bind, Sem.run_pure, run_size hE hinf, r1, Result.andThen_ok, hc _ _ _ r2 e.1]
              exact ih e.2
            · cases e
        · cases e
    · cases e
/-- The entry of a key. -/
def afind (E : Env) (Q : Eqs) (kt : Nat) (key : Value) : List (Value × Value × Nat) → Nat → Option (Option (Nat × Value))
  | [], _ => some none
  | e :: es, i => match aeq E Q 40 kt key e.1 with
    | some true => some (some (i, e.2.1))
    | some false => afind E Q kt key es (i + 1)
    | none => none
def MR (μ : Mp) (es : List (Value × Value × Nat)) (fs : List MapEntry) : Prop := fs.length = es.length ∧ ∀ (i : Nat) (e : Value × Value × Nat) (e' : MapEntry), es[i]? = some e → fs[i]? = some e' → VR μ e.1 e'.key ∧ VR μ e.2.1 e'.val ∧ e'.born = e.2.2
theorem MR.inv {es : List (Value × Value × Nat)} {e : Value × Value × Nat} {fs : List MapEntry} (h : MR μ (e :: es) fs) : ∃ f gs, fs = f :: gs ∧ (VR μ e.1 f.key ∧ VR μ e.2.1 f.val ∧ f.born = e.2.2) ∧ MR μ es gs := by
  cases fs with
  | nil => have := h.1; simp at this
  | cons f gs => exact ⟨f, gs, rfl, h.2 0 e f rfl rfl, by have := h.1; simpa using this, fun i a b h1 h2 => h.2 (i + 1) a b (by simpa using h1) (by simpa using h2)⟩
def FR (μ : Mp) : Option (Nat × Value) → Option (Nat × Value) → Prop
  | none, none => True
  | some (i, v), some (j, u) => i = j ∧ VR μ v u
  | _, _ => False
theorem afind_asking (hE : E.Ok P) (hQ : Q.Ok P) (h : Rel μ H w0 w) {kt : Nat} {key key' : Value} (hk : VR μ key key') : ∀ (es : List (Value × Value × Nat)) (fs : List MapEntry) (i : Nat) (r : Option (Nat × Value)), MR μ es fs → afind E Q kt key es i = some r →
      ∃ r', (Instr.findAsking kt key' fs i).run P w = .ok r' w ∧ FR μ r r'
  | [], fs, i, r, hm, e => by
    cases e
    have : fs = [] := by have := hm.1; simpa using this
    subst this
    exact ⟨none, rfl, trivial⟩
  | a :: es, fs, i, r, hm, e => by
    obtain ⟨f, gs, rfl, ⟨h1, h2, h3⟩, h4⟩ := hm.inv
    simp only [afind] at e
    split at e
    · rename_i he
      cases e
      have := aeq_ok hE hQ h 40 kt key key' a.1 f.key true 10000 (by decide) hk h1 he
      refine ⟨some (i, f.val), ?_, rfl, h2⟩
      simp only [Instr.findAsking, Sem.run_bind, Op.equal, Op.maxDepth, this, Result.andThen_ok, if_true, Sem.run_pure]
    · rename_i he
      have := aeq_ok hE hQ h 40 kt key key' a.1 f.key false 10000 (by decide) hk h1 he
      obtain ⟨r', q1, q2⟩ := afind_asking hE hQ h hk es gs (i + 1) r h4 e
      refine ⟨r', ?_, q2⟩
      simp only [Instr.findAsking, Sem.run_bind, Op.equal, Op.maxDepth, this, Result.andThen_ok, Bool.false_eq_true, if_false, q1]
    · cases e
/-- What is told at once is what is told by asking. -/
theorem sameNow_eq (hE : E.Ok P) (hQ : Q.Ok P) (h : Rel μ H w0 w) {kt : Nat} {d : TypeDesc} (hu : E.und kt = some d) {x x' y y' : Value} (hx : VR μ x x') (hy : VR μ y y') {b : Bool} (e : aeq E Q 40 kt x y = some b) {c : Bool} (hs : Instr.sameNow d x' y' = some c) : c = b := by
  obtain ⟨D, hD⟩ : ∃ D, 40 ≤ D + 1 := ⟨40, by decide⟩
  have key := aeq_ok hE hQ h 40 kt x x' y y' b (D + 1) hD hx hy e
  unfold Instr.sameNow at hs
  split at hs
  · simp only [Op.equalIn, Sem.run_bind, run_und hE hu, Result.andThen_ok] at key
    split at hs
    · rename_i hk
      rw [if_pos hk] at key
      cases hs
      simp only [Sem.run_pure, Result.ok.injEq, and_true] at key
      exact key
    · cases hs
  · simp only [Op.equalIn, Sem.run_bind, run_und hE hu, Result.andThen_ok] at key
    cases hs
    simp only [Sem.run_pure, Result.ok.injEq, and_true] at key
    exact key
  · simp only [Op.equalIn, Sem.run_bind, run_und hE hu, Result.andThen_ok] at key
    cases hs
    simp only [Sem.run_pure, Result.ok.injEq, and_true] at key
    exact key
  · cases hs
theorem afind_now (hE : E.Ok P) (hQ : Q.Ok P) (h : Rel μ H w0 w) {kt : Nat} {d : TypeDesc} (hu : E.und kt = some d) {key key' : Value} (hk : VR μ key key') : ∀ (es : List (Value × Value × Nat)) (fs : List MapEntry) (i : Nat) (r r' : Option (Nat × Value)), MR μ es fs → afind E Q kt key es i = some r → Instr.findNow d key' fs i = some r' → FR μ r r'
  | [], fs, i, r, r', hm, e, e' => by
    cases e
    have : fs = [] := by have := hm.1; simpa using this
    subst this
    simp only [Instr.findNow, Option.some.injEq] at e'
    subst e'
    trivial
  | a :: es, fs, i, r, r', hm, e, e' => by
    obtain ⟨f, gs, rfl, ⟨h1, h2, h3⟩, h4⟩ := hm.inv
    simp only [afind] at e
    simp only [Instr.findNow] at e'
    split at e
    · rename_i he
      cases e
      split at e'
      · cases e'; exact ⟨rfl, h2⟩
      · rename_i hs
        have := sameNow_eq hE hQ h hu hk h1 he hs
        cases this
      · cases e'
    · rename_i he
      split at e'
      · rename_i hs
        have := sameNow_eq hE hQ h hu hk h1 he hs
        cases this
      · exact afind_now hE hQ h hu hk es gs (i + 1) r r' h4 e e'
      · cases e'
    · cases e
theorem afind_ok (hE : E.Ok P) (hQ : Q.Ok P) (h : Rel μ H w0 w) {kt : Nat} {d : TypeDesc} (hu : E.und kt = some d) {key key' : Value} (hk : VR μ key key') {es : List (Value × Value × Nat)} {fs : List MapEntry} {r : Option (Nat × Value)} (hm : MR μ es fs) (e : afind E Q kt key es 0 = some r) :
    ∃ r', (Instr.findKey kt key' fs).run P w = .ok r' w ∧ FR μ r r' := by
  simp only [Instr.findKey, Sem.run_bind, run_und hE hu, Result.andThen_ok]
  cases hn : Instr.findNow d key' fs 0 with
  | none => exact afind_asking hE hQ h hk es fs 0 r hm e
  | some r' => exact ⟨r', rfl, afind_now hE hQ h hu hk es fs 0 r r' hm e hn⟩
end
end AM
end Go.Proofs.YtoicnghjjgkebaaGreatDoor
