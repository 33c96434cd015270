/-
  The abstract machine: maps that are ranged over. No condition.
-/
import Derived.Test.YtoicnghjjgkebaaGreatDoorV17
import Derived.Laws.IdiomRangeMap
set_option linter.unusedSectionVars false
set_option linter.unusedSimpArgs false
set_option linter.unusedVariables false
set_option linter.unnecessarySimpa false
namespace Go.Proofs.YtoicnghjjgkebaaGreatDoor
namespace AM
open Go.RowKit
variable [Toks]

section
variable {P : Program} {E : Env} {μ : Mp} {H : AH} {w0 : Base} {w : World}
def mapIn (H : AH) (m : Nat) : Option (List (Value × Value × Nat) × Nat) := match H.t.get m with
  | some (.map es n) => some (es, n)
  | some (.rmap es n) => some (es, n)
  | _ => none
theorem Rel.mapIn (h : Rel μ H w0 w) {k : Nat} {es : List (Value × Value × Nat)} {n : Nat} (hk : mapIn H k = some (es, n)) {g s : Nat} (hm : μ k = some (g, s)) : ∃ F : Array MapEntry, w.heap[g]? = some (.map F n) ∧ MR μ es F.toList := by
  unfold Proofs.YtoicnghjjgkebaaGreatDoor.AM.mapIn at hk
  split at hk
  · rename_i es' n' hb
    cases hk
    exact h.mapR hb hm
  · rename_i es' n' hb
    cases hk
    obtain ⟨g', s', e1, l1, _⟩ := h.lies k _ hb
    rw [hm] at e1; cases e1
    obtain ⟨o, ho, F, rfl, h2, h3⟩ := l1 rfl
    exact ⟨F, ho, by simpa using h2, fun i e e' h4 h5 => h3 i e e' h4 (by simpa using h5)⟩
  · cases hk
def amrange (E : Env) (H : AH) (t : Nat) (m : Option Nat) : Option (Value × AH) := match E.und t with
  | some (.map _ _) => bif Nat.blt (H.next + 1) 1099511627776 then (match m with
    | none => some (.pointer (some ⟨H.next, 0, none⟩), H.alloc (.miter none 0 [] 0))
    | some m => match mapIn H m with
      | some (_, n) => some (.pointer (some ⟨H.next, 0, none⟩), H.alloc (.miter (some m) n [] n))
      | none => none) else none
  | _ => none
theorem amrange_ok (hE : E.Ok P) (h : Rel μ H w0 w) {t : Nat} {m : Option Nat} {x' r : Value} {H' : AH} (hx : VR μ (.map m) x') (e : amrange E H t m = some (r, H')) : GotV P (Instr.range t x') μ w0 w r H' := by
  unfold amrange at e
  split at e
  · rename_i ka kb hu
    cases hb : Nat.blt (H.next + 1) 1099511627776 with
    | false => rw [hb] at e; cases e
    | true =>
      rw [hb, cond_true] at e
      have b1 : H.next + 1 < 1099511627776 := Nat.le_of_ble_eq_true hb
      split at e
      · cases e
        cases hx
        obtain ⟨ν, n1, n2, n3⟩ := h.alloc (by omega) (b := .miter none 0 [] 0) (o := .mapIter none 0 #[] 0) (s := 0) rfl
        exact ⟨ν, .pointer (some ⟨w.heap.size, 0, none⟩), _, run_range_nilMap w t _ _ (hE.und _ _ hu), n1, n3, .ptr 0 n2⟩
      · rename_i m
        split at e
        · rename_i es n hm
          cases e
          cases hx with
          | @map _ g s hg =>
            obtain ⟨F, hF, _⟩ := h.mapIn hm hg
            obtain ⟨ν, n1, n2, n3⟩ := h.alloc (by omega) (b := .miter (some m) n [] n) (o := .mapIter (some g) n #[] n) (s := 0) ⟨g, s, hg, rfl⟩
            exact ⟨ν, .pointer (some ⟨w.heap.size, 0, none⟩), _, run_range_map w t _ _ g F n (hE.und _ _ hu) hF, n1, n3, .ptr 0 n2⟩
        · cases e
  · cases e
theorem run_next_at (w : World) (ty : TypeId) (r bm since c0 : Nat) (seen : Array Nat) (es : Array MapEntry) (clock : Nat) (hr : w.heap[r]? = some (.mapIter (some bm) since seen c0)) (hb : w.heap[bm]? = some (.map es clock)) (hold : ∀ x ∈ es.toList, x.born < since) (hsc : since ≤ c0) :
    ((leftOf es seen).size = 0 ∧ (Instr.next (.pointer (some ⟨r, 0, none⟩)) false ty).run P w = .ok (.tuple #[.bool false]) w) ∨
    ∃ e ∈ (leftOf es seen).toList, ∃ w1 : World, (w1 = w ∨ w1 = w.drew) ∧ (Instr.next (.pointer (some ⟨r, 0, none⟩)) false ty).run P w = .ok (.tuple #[.bool true, e.key, e.val]) (World.over w1 r (.mapIter (some bm) since (seen.push e.born) clock)) := by
  simp only [Instr.next, getObj, Sem.run_bind, Sem.run, hr, hb, Result.andThen, next_test_false seen es since c0 hold hsc, Bool.false_eq_true, if_false]
  unfold leftOf
  have hmem : ∀ x ∈ (Array.filter (fun e => !seen.contains e.born) es).toList, x.born < since := fun x hx => hold x (by simp at hx ⊢; exact hx.1)
  generalize Array.filter (fun e => !seen.contains e.born) es = L at hmem ⊢
  have e1 : L.filter (fun x => decide (x.born < since)) = L := Array.filter_eq_self.2 (fun x hx => by simpa using hmem x (by simpa using hx))
  have e2 : L.filter (fun x => decide (x.born ≥ since)) = #[] := by
    rw [Array.filter_eq_empty_iff]
    intro x hx
    have := hmem x (by simpa using hx)
    simp
    omega
  simp only [e1, e2, Array.append_empty]
  by_cases h0 : L.size = 0
  · left
    have : L = #[] := Array.eq_empty_of_size_eq_zero h0
    subst this
    refine ⟨rfl, ?_⟩
    simp [choose, Sem.run, Question.forced]
  · right
    have hne : L.isEmpty = false := by simp [Array.isEmpty, h0]
    simp only [hne, Bool.false_eq_true, if_false, Array.empty_append, Array.size_map]
    have hch : ∃ (j : Nat) (w1 : World), j < L.size ∧ (w1 = w ∨ w1 = w.drew) ∧ (choose (Question.mapNext L.size)).run P w = .ok j w1 := by
      by_cases hf : L.size ≤ 1
      · exact ⟨0, w, by omega, .inl rfl, by simp [choose, Sem.run, Question.forced, hf]⟩
      · exact ⟨_, w.drew, Nat.mod_lt _ (by omega), .inr rfl, by
          simp only [choose, Sem.run, Question.forced, decide_eq_true_eq, hf, if_false, Question.cut]
          rfl⟩
    obtain ⟨j, w1, hj, hal, hrun⟩ := hch
    refine ⟨L[j], by simp, w1, hal, ?_⟩
    have hr1 : w1.heap[r]? = some (.mapIter (some bm) since seen c0) := by rcases hal with rfl | rfl <;> exact hr
    have hset : ∀ (o' : Obj), (setObj r o').run P w1 = .ok () (World.over w1 r o') := fun o' => by simp only [setObj, Sem.run, hr1]; rfl
    simp only [hrun, Array.getElem?_map, Array.getElem?_eq_getElem hj, Option.map_some, Sem.run_bind, hset, Result.andThen]
    rfl
def leftA (es : List (Value × Value × Nat)) (seen : List Nat) : List (Value × Value × Nat) := es.filter fun e => !seen.any (Nat.beq e.2.2)
def amnext (H : AH) : Value → Option (List (Value × AH))
  | .pointer (some ⟨k, 0, none⟩) => match H.t.get k with
    | some (.miter none _ _ _) => some [(.tuple #[.bool false], H)]
    | some (.miter (some m) since seen st) => match mapIn H m with
      | some (es, n) => bif es.all (fun e => Nat.blt e.2.2 since) && Nat.ble since st then
          (bif (leftA es seen).isEmpty then some [(.tuple #[.bool false], H)] else
            some ((leftA es seen).map fun e => (.tuple #[.bool true, e.1, e.2.1], H.put k (.miter (some m) since (seen ++ [e.2.2]) n)))) else none
      | none => none
    | _ => none
  | _ => none
theorem mem_left {es : List (Value × Value × Nat)} {F : Array MapEntry} (hM : MR μ es F.toList) {seen : List Nat} {f : MapEntry} (hf : f ∈ (leftOf F seen.toArray).toList) : ∃ e ∈ leftA es seen, VR μ e.1 f.key ∧ VR μ e.2.1 f.val ∧ f.born = e.2.2 := by
  unfold leftOf at hf
  rw [Array.toList_filter, List.mem_filter] at hf
  obtain ⟨h1, h2⟩ := hf
  obtain ⟨i, hi, hfi⟩ := List.getElem_of_mem h1
  have hi' : i < es.length := by rw [← hM.1]; exact hi
  have h3 := hM.2 i es[i] f (List.getElem?_eq_getElem hi') (by rw [List.getElem?_eq_getElem hi, hfi])
  refine ⟨es[i], List.mem_filter.2 ⟨List.getElem_mem hi', ?_⟩, h3⟩
  rw [h3.2.2] at h2
  rw [Bool.not_eq_true'] at h2 ⊢
  rw [List.any_eq_false]
  intro x hx hb
  have := Nat.eq_of_beq_eq_true hb
  subst this
  simp at h2
  exact h2 hx
theorem left_mem {es : List (Value × Value × Nat)} {F : Array MapEntry} (hM : MR μ es F.toList) {seen : List Nat} {e : Value × Value × Nat} (he : e ∈ leftA es seen) : (leftOf F seen.toArray).size ≠ 0 := by
  unfold leftA at he
  obtain ⟨h1, h2⟩ := List.mem_filter.1 he
  obtain ⟨i, hi, hei⟩ := List.getElem_of_mem h1
  have hi' : i < F.toList.length := by rw [hM.1]; exact hi
  have h3 := hM.2 i e F.toList[i] (by rw [List.getElem?_eq_getElem hi, hei]) (List.getElem?_eq_getElem hi')
  intro h0
  have h4 : F.toList[i] ∈ (leftOf F seen.toArray).toList := by
    unfold leftOf
    rw [Array.toList_filter, List.mem_filter]
    refine ⟨List.getElem_mem hi', ?_⟩
    rw [h3.2.2]
    rw [Bool.not_eq_true'] at h2 ⊢
    rw [List.any_eq_false] at h2
    rw [Bool.eq_false_iff]
    intro hc
    have hc2 : e.2.2 ∈ seen := by simpa using hc
    exact h2 _ hc2 (Nat.beq_refl _)
  have h5 : (leftOf F seen.toArray) = #[] := Array.eq_empty_of_size_eq_zero h0
  rw [h5] at h4
  simp at h4
theorem amnext_ok (h : Rel μ H w0 w) {ty : Nat} {x x' : Value} {outs : List (Value × AH)} (hx : VR μ x x') (e : amnext H x = some outs) : ∃ p ∈ outs, GotV P (Instr.next x' false ty) μ w0 w p.1 p.2 := by
  unfold amnext at e
  split at e
  · rename_i k
    cases hx with
    | @ptr _ g z _ hm =>
      split at e
      · rename_i since seen st hk
        cases e
        obtain ⟨g', s', e1, l1, _⟩ := h.lies k _ hk
        rw [hm] at e1; cases e1
        obtain ⟨o, ho, rfl⟩ := l1 rfl
        refine ⟨(.tuple #[.bool false], H), by simp, .pure h (v' := .tuple #[.bool false]) ?_ (cval_ok μ 3 _ (by rfl))⟩
        simp only [Instr.next, getObj, Sem.run_bind, Sem.run, ho, Result.andThen]
        rfl
      · rename_i m since seen st hk
        split at e
        · rename_i es n hmap
          cases hb : (es.all (fun e => Nat.blt e.2.2 since) && Nat.ble since st) with
          | false => rw [hb] at e; cases e
          | true =>
            rw [hb, cond_true] at e
            rw [Bool.and_eq_true] at hb
            obtain ⟨g', s', e1, l1, _⟩ := h.lies k _ hk
            rw [hm] at e1; cases e1
            obtain ⟨o, ho, gm, zm, hgm, rfl⟩ := l1 rfl
            obtain ⟨F, hF, hM⟩ := h.mapIn hmap hgm
            have hold : ∀ x ∈ F.toList, x.born < since := fun x hx => by
              obtain ⟨i, hi, hxi⟩ := List.getElem_of_mem hx
              have hi' : i < es.length := by rw [← hM.1]; exact hi
              have h3 := hM.2 i es[i] x (List.getElem?_eq_getElem hi') (by rw [List.getElem?_eq_getElem hi, hxi])
              rw [h3.2.2]
              exact Nat.le_of_ble_eq_true (List.all_eq_true.1 hb.1 es[i] (List.getElem_mem hi'))
            rcases run_next_at (P := P) w ty g gm since st seen.toArray F n ho hF hold (Nat.le_of_ble_eq_true hb.2) with ⟨h1, h2⟩ | ⟨f, h1, w1, h2, h3⟩
            · cases hl : (leftA es seen).isEmpty with
              | true =>
                rw [hl, cond_true] at e
                cases e
                exact ⟨(.tuple #[.bool false], H), by simp, .pure h h2 (cval_ok μ 3 _ (by rfl))⟩
              | false =>
                cases hl2 : leftA es seen with
                | nil => rw [hl2] at hl; cases hl
                | cons x xs => exact absurd h1 (left_mem hM (e := x) (by rw [hl2]; simp))
            · obtain ⟨en, he1, he2, he3, he4⟩ := mem_left hM h1
              cases hl : (leftA es seen).isEmpty with
              | true => rw [List.isEmpty_iff.1 hl] at he1; simp at he1
              | false =>
                rw [hl, cond_false] at e
                cases e
                refine ⟨_, List.mem_map.2 ⟨en, he1, rfl⟩, μ, .tuple #[.bool true, f.key, f.val], _, h3, .refl μ, ?_, ?_⟩
                · have hrel : Rel μ H w0 w1 := by rcases h2 with rfl | rfl; exact h; exact h.drew
                  refine hrel.over hk rfl rfl hm ⟨gm, zm, hgm, ?_⟩
                  rw [he4]
                  congr 1
                  simp
                · have hl3 : LR μ [.bool true, en.1, en.2.1] [.bool true, f.key, f.val] := .cons (.bool true) (.cons he2 (.cons he3 (.nil μ)))
                  exact .tuple hl3.toArray.1 hl3.toArray.2
        · cases e
      · cases e
  · cases e
def lastN : List Nat → Option Nat
  | [] => none
  | [x] => some x
  | _ :: l => lastN l
def amentry (H : AH) : Value → Option Value
  | .pointer (some ⟨k, 0, none⟩) => match H.t.get k with
    | some (.miter (some m) _ seen st) => match mapIn H m, lastN seen with
      | some (es, n), some b => bif Nat.beq n st then (match es.find? (fun e => Nat.beq e.2.2 b) with
        | some e => some (.tuple #[e.1, e.2.1])
        | none => none) else none
      | _, _ => none
    | _ => none
  | _ => none
theorem lastN_back : ∀ l : List Nat, l.toArray.back? = lastN l
  | [] => rfl
  | [x] => rfl
  | x :: y :: l => by
    rw [lastN, ← lastN_back (y :: l)]
    · simp [Array.back?]
    · intro h; cases h
theorem find_entry : ∀ {es : List (Value × Value × Nat)} {fs : List MapEntry}, MR μ es fs → ∀ {b : Nat} {e : Value × Value × Nat}, es.find? (fun e => Nat.beq e.2.2 b) = some e → ∃ f, fs.find? (·.born == b) = some f ∧ VR μ e.1 f.key ∧ VR μ e.2.1 f.val
  | [], fs, h, b, e, he => by cases he
  | x :: es, fs, h, b, e, he => by
    obtain ⟨f, gs, rfl, h1, h2⟩ := h.inv
    rw [List.find?_cons] at he ⊢
    split at he
    · rename_i hb
      cases he
      have : (f.born == b) = true := by rw [h1.2.2, Nat.eq_of_beq_eq_true hb]; simp
      rw [this]
      exact ⟨f, rfl, h1.1, h1.2.1⟩
    · rename_i hb
      have : (f.born == b) = false := by
        rw [h1.2.2, beq_eq_false_iff_ne]
        intro hc
        rw [hc, show Nat.beq b b = true from Nat.beq_refl b] at hb; cases hb
      rw [this]
      exact find_entry h2 he
theorem amentry_ok (h : Rel μ H w0 w) {x x' r : Value} (hx : VR μ x x') (e : amentry H x = some r) : GotV P (Instr.entry x') μ w0 w r H := by
  unfold amentry at e
  split at e
  · rename_i k
    cases hx with
    | @ptr _ g z _ hm =>
      split at e
      · rename_i m since seen st hk
        split at e
        · rename_i es n b hmap hlast
          cases hb : Nat.beq n st with
          | false => rw [hb] at e; cases e
          | true =>
            rw [hb, cond_true] at e
            have hb := Nat.eq_of_beq_eq_true hb
            split at e
            · rename_i en hen
              cases e
              obtain ⟨g', s', e1, l1, _⟩ := h.lies k _ hk
              rw [hm] at e1; cases e1
              obtain ⟨o, ho, gm, zm, hgm, rfl⟩ := l1 rfl
              obtain ⟨F, hF, hM⟩ := h.mapIn hmap hgm
              obtain ⟨f, hf1, hf2, hf3⟩ := find_entry hM hen
              have hl3 : LR μ [en.1, en.2.1] [f.key, f.val] := .cons hf2 (.cons hf3 (.nil μ))
              refine .pure h (v' := .tuple #[f.key, f.val]) ?_ (.tuple hl3.toArray.1 hl3.toArray.2)
              have hf1' : F.find? (·.born == b) = some f := by rw [← Array.find?_toList]; exact hf1
              subst hb
              simp only [Instr.entry, getObj, Sem.run_bind, Sem.run, ho, hF, Result.andThen, lastN_back, hlast, bne_self_eq_false, Bool.false_eq_true, if_false, hf1', Sem.run_pure]
            · cases e
        · cases e
      · cases e
  · cases e
end
end AM
end Go.Proofs.YtoicnghjjgkebaaGreatDoor
