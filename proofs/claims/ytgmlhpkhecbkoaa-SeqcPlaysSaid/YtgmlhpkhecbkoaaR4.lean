/-
  (*counterpaneref03.Axis).Insert: parts. Condition: the axis lies in memory as RefAt says.
-/
import Derived.Test.YtgmlhpkhecbkoaaR3
import Derived.Great.BuildSlice
namespace Go.Proofs.Ytgmlhpkhecbkoaa
open Go.RowKit

theorem bs0_22 (w : World) : (Instr.buildSlice 22 0 #[]).run Try.prog w = .ok (.slice (some ⟨w.heap.size, 0, none⟩) 0 0) (w.alloc (.cells #[] 24)) := by
  obtain ⟨i0, hi, hi0, hi1, hi2⟩ := info_parts Try.info24
  simp [Instr.buildSlice, run_underlying Try.underlying22, sizeOf, typeInfo, zeroValue, hi, hi0, hi1, newRow, Instr.fill]
  kernel_rfl
theorem bs0_53 (w : World) : (Instr.buildSlice 53 0 #[]).run Try.prog w = .ok (.slice (some ⟨w.heap.size, 0, none⟩) 0 0) (w.alloc (.cells #[] 4)) := by
  obtain ⟨i0, hi, hi0, hi1, hi2⟩ := info_parts Try.info4
  simp [Instr.buildSlice, run_underlying Try.underlying53, sizeOf, typeInfo, zeroValue, hi, hi0, hi1, newRow, Instr.fill]
  kernel_rfl
theorem bs1_22 (w : World) (x y : Int) : (Instr.buildSlice 22 1 #[(0, .agg #[.int .i64 x, .int .i64 y])]).run Try.prog w = .ok (.slice (some ⟨w.heap.size, 0, none⟩) 1 1) (w.alloc (.cells [.int .i64 x, .int .i64 y].toArray 24)) := by
  obtain ⟨i0, hi, hi0, hi1, hi2⟩ := info_parts Try.info24
  refine run_buildSlice w 22 24 1 _ _ i0 _ Try.underlying22 hi hi0 (by rw [hi1]; omega) (by rw [hi1]; omega) ?_
  rw [hi1]
  kernel_rfl
theorem bs1_53 (w : World) : (Instr.buildSlice 53 1 #[(0, .bool true)]).run Try.prog w = .ok (.slice (some ⟨w.heap.size, 0, none⟩) 1 1) (w.alloc (.cells [.bool true].toArray 4)) := by
  obtain ⟨i0, hi, hi0, hi1, hi2⟩ := info_parts Try.info4
  refine run_buildSlice w 53 4 1 _ _ i0 _ Try.underlying53 hi hi0 (by rw [hi1]; omega) (by rw [hi1]; omega) ?_
  rw [hi1]
  kernel_rfl

theorem row_src {w : World} {own : Tags} {t : Nat} {e : TypeId} {size : Nat} {A : Option Addr} {n c : Nat} {xs : List Value} (h : Row w own t e size (.slice A n c) n xs) :
    (A = none → n = 0 ∧ c = 0) ∧ ∀ ad, A = some ad → ad.spot = none ∧ ad.off = 0 ∧ ∀ j u, xs[j]? = some u → w.cell? ⟨ad.block, j, none⟩ = some u := by
  rcases h.1.2 with ⟨hv, h0⟩ | ⟨g, cap, cur, hv, _, hg, _, _, _, ht⟩
  · injection hv with e1 e2 e3
    exact ⟨fun _ => ⟨e2, e3⟩, fun ad ha => by rw [e1] at ha; cases ha⟩
  · injection hv with e1 e2 e3
    refine ⟨fun ha => (by rw [e1] at ha; cases ha), fun ad ha => ?_⟩
    rw [e1] at ha
    cases ha
    refine ⟨rfl, rfl, fun j u hj => ?_⟩
    rw [cell_of_row w g j cur e (0, 0) hg]
    rw [← ht, List.getElem?_take] at hj
    split at hj
    · simpa using hj
    · cases hj

theorem Row.fresh {w wk : World} {own : Tags} {t : Nat} {e : TypeId} {size : Nat} {v : Value} {n : Nat} {xs : List Value} (h : wk.ownsRow w.heap.size e size v n xs) (hb : Below w.heap.size w wk) :
    ∃ own', Tr own t w own' wk ∧ (∀ k, k < w.heap.size → own' k = own k) ∧ Row wk own' t e size v n xs := by
  have h0 : wk.ownsRow 0 e size v n xs := ⟨h.1, h.2.imp id (fun ⟨g, cap, cur, a, _, c⟩ => ⟨g, cap, cur, a, Nat.zero_le _, c⟩)⟩
  rcases h.2 with ⟨hv, _⟩ | ⟨g, cap, cur, hv, hge, hg, _⟩
  · exact ⟨own, (Tr.refl own t w).below hb, fun _ _ => rfl, h0, fun k hk => by rw [hv] at hk; cases hk⟩
  · refine ⟨tagAt own g t, ((Tr.refl own t w).below hb).tag hge (Array.getElem?_eq_some_iff.1 hg).1 t, fun k hk => by unfold tagAt; rw [if_neg (by omega)], h0, fun k hk => ?_⟩
    rw [hv] at hk
    have : g = k := by simpa [Value.ownBlock] using hk
    simp [tagAt, this]

theorem RefIs.newI {w wk : World} {own : Tags} {t p : Nat} {ids ids' : List Id} {live : List Bool} {vI vL v : Value} (a : RefIs w own t p ids live vI vL) (hb : Below w.heap.size w wk) (hr : wk.ownsRow w.heap.size 24 2 v ids'.length (idCells ids')) :
    Blk wk p 55 #[vI, vL] ∧ ∃ own', Tr own t w own' (wk.setCell ⟨p, 0, none⟩ v) ∧ RefIs (wk.setCell ⟨p, 0, none⟩ v) own' t p ids' live v vL := by
  obtain ⟨own', tr, hs, r⟩ := Row.fresh (own := own) (t := t) hr hb
  have b1 := a.blk.kept (hb.block p a.blk.lt)
  have tp : own' p = t := by rw [hs p a.blk.lt]; exact a.tag
  have hsame : Same t own w own' wk := fun k hk ho => ⟨hb.block k hk, by rw [hs k hk]; exact ho⟩
  exact ⟨b1, own', tr.setCell (.inl tp) _, tp, b1.store 0 _, r.stored _ (fun _ _ h _ => h.ne_type b1 (by decide)), (a.rL.keep hsame).stored _ (fun _ _ h _ => h.ne_type b1 (by decide))⟩
theorem RefIs.newL {w wk : World} {own : Tags} {t p : Nat} {ids : List Id} {live live' : List Bool} {vI vL v : Value} (a : RefIs w own t p ids live vI vL) (hb : Below w.heap.size w wk) (hr : wk.ownsRow w.heap.size 4 1 v live'.length (boolCells live')) :
    Blk wk p 55 #[vI, vL] ∧ ∃ own', Tr own t w own' (wk.setCell ⟨p, 1, none⟩ v) ∧ RefIs (wk.setCell ⟨p, 1, none⟩ v) own' t p ids live' vI v := by
  obtain ⟨own', tr, hs, r⟩ := Row.fresh (own := own) (t := t) hr hb
  have b1 := a.blk.kept (hb.block p a.blk.lt)
  have tp : own' p = t := by rw [hs p a.blk.lt]; exact a.tag
  have hsame : Same t own w own' wk := fun k hk ho => ⟨hb.block k hk, by rw [hs k hk]; exact ho⟩
  exact ⟨b1, own', tr.setCell (.inl tp) _, tp, b1.store 1 _, (a.rI.keep hsame).stored _ (fun _ _ h _ => h.ne_type b1 (by decide)), r.stored _ (fun _ _ h _ => h.ne_type b1 (by decide))⟩

/-- The call returns v; the document's axis p then has these ids; nothing but what is tagged t was turned. -/
def RA (w : World) (own : Tags) (t p : Nat) (ids : List Id) (live : List Bool) (v : Value) (e : Ending) (w' : World) : Prop :=
  e = .returned v ∧ ∃ own', Tr own t w own' w' ∧ RefAt w' own' t p ids live
theorem rfind_c (w : World) (own : Tags) (t p : Nat) (ids : List Id) (live : List Bool) (x y : Int) (h : RefAt w own t p ids live) :
    Calls Try.prog 42 #[.pointer (some ⟨p, 0, none⟩), .agg #[.int .i64 x, .int .i64 y]] w fun e w' => e = .returned (.int .i64 (idxI (x, y) ids)) ∧ Below w.heap.size w w' := by
  obtain ⟨_, hle, vI, vL, a⟩ := h
  exact find_c w own t p ids x y vI vL a.blk a.rI (by omega)

set_option maxRecDepth 100000 in
set_option maxHeartbeats 2000000 in
theorem rins_zero (w : World) (own : Tags) (t p : Nat) (ids : List Id) (live : List Bool) (b1 b2 : Int) (h : RefAt w own t p ids live) :
    Calls Try.prog 34 #[.pointer (some ⟨p, 0, none⟩), .agg #[.int .i64 b1, .int .i64 b2], .agg #[.int .i64 0, .int .i64 0]] w (RA w own t p ids live (.int .i64 1)) := by
  have H := Lib.hid h
  have hq : ideq 0 0 0 0 = true := rfl
  clear h
  go_enter Try.func34, Try.ntmps34
  go_wp2
  go_ret
  exact ⟨rfl, own, ((Tr.refl own t w).alloc _).alloc _, H.out.keep (same2 _ _)⟩

set_option maxRecDepth 100000 in
set_option maxHeartbeats 2000000 in
theorem rins_dup (w : World) (own : Tags) (t p : Nat) (ids : List Id) (live : List Bool) (b1 b2 x y : Int) (i : Nat) (h : RefAt w own t p ids live) (hz : (x, y) ≠ (0, 0)) (hx : idxI (x, y) ids = (i : Int)) :
    Calls Try.prog 34 #[.pointer (some ⟨p, 0, none⟩), .agg #[.int .i64 b1, .int .i64 b2], .agg #[.int .i64 x, .int .i64 y]] w (RA w own t p ids live (.int .i64 4)) := by
  have hsp := Lib.hid (fun o o' => rfind_c ((w.alloc o).alloc o') own t p ids live x y (h.keep (same2 o o')))
  rw [hx] at hsp
  have H := Lib.hid h
  have hq : ideq x y 0 0 = false := ideq_false.2 (fun ⟨a, b⟩ => hz (by rw [a, b]))
  have hi0 : (0 : Int) ≤ (i : Int) := by omega
  clear h hx hz
  go_enter Try.func34, Try.ntmps34
  go_wp2_with fail
  refine (hsp.out _ _).mono ?_
  rintro e w1 ⟨rfl, hB⟩
  have HB := Lib.hid hB
  clear hB
  go_wp2
  go_ret
  exact ⟨rfl, own, (((Tr.refl own t w).alloc _).alloc _).below HB.out, H.out.keep ((same2 _ _).trans (by simp; omega) (Same.below HB.out))⟩

set_option maxRecDepth 100000 in
set_option maxHeartbeats 2000000 in
theorem rins_out (w : World) (own : Tags) (t p : Nat) (ids : List Id) (live : List Bool) (b1 b2 x y : Int) (h : RefAt w own t p ids live) (hz : (x, y) ≠ (0, 0)) (hx : idxI (x, y) ids = -1) (hb : (b1, b2) ≠ (0, 0)) (hbx : idxI (b1, b2) ids = -1) :
    Calls Try.prog 34 #[.pointer (some ⟨p, 0, none⟩), .agg #[.int .i64 b1, .int .i64 b2], .agg #[.int .i64 x, .int .i64 y]] w (RA w own t p ids live (.int .i64 3)) := by
  have hsp := Lib.hid (fun o o' => rfind_c ((w.alloc o).alloc o') own t p ids live x y (h.keep (same2 o o')))
  have hsq := Lib.hid (fun (o o' : Obj) (w1 : World) (hB : Below ((w.alloc o).alloc o').heap.size ((w.alloc o).alloc o') w1) => rfind_c w1 own t p ids live b1 b2 ((h.keep (same2 o o')).keep (Same.below hB)))
  rw [hx] at hsp
  rw [hbx] at hsq
  have H := Lib.hid h
  have hq : ideq x y 0 0 = false := ideq_false.2 (fun ⟨a, b⟩ => hz (by rw [a, b]))
  have hq2 : ideq b1 b2 0 0 = false := ideq_false.2 (fun ⟨a, b⟩ => hb (by rw [a, b]))
  have hbox := Lib.hid (Blk.new w 24 #[.int .i64 b1, .int .i64 b2])
  clear h hx hz hb hbx
  go_enter Try.func34, Try.ntmps34
  go_wp2_with fail
  refine (hsp.out _ _).mono ?_
  rintro e w1 ⟨rfl, hB⟩
  have hb1 := (hbox.out.alloc (.cells #[.int .i64 x, .int .i64 y] 24)).kept (hB.block w.heap.size (by simp; omega))
  have d0 := hb1.cell 0
  have d1 := hb1.cell 1
  simp at d0 d1
  have HB := Lib.hid hB
  clear hB hb1
  go_wp2_with fail
  refine (hsq.out _ _ _ HB.out).mono ?_
  rintro e w2 ⟨rfl, hB⟩
  have HC := Lib.hid hB
  clear hB
  go_wp2
  go_ret
  exact ⟨rfl, own, ((((Tr.refl own t w).alloc _).alloc _).below HB.out).below HC.out, (H.out.keep ((same2 _ _).trans (by simp; omega) (Same.below HB.out))).keep (Same.below HC.out)⟩

theorem bs0_ids {o : Oper} (h : o.op = .buildSlice 22 0 #[]) (F : Act) (w : World) : (execOp F.eval o).run Try.prog w = .ok (.value (.slice (some ⟨w.heap.size, 0, none⟩) 0 0)) (w.alloc (.cells #[] 24)) := by
  unfold execOp
  simp only [h, Sem.run_bind, List.map_toArray, List.map_nil, bs0_22]
  rfl
theorem bs1_ids {o : Oper} {k : Tmp} (h : o.op = .buildSlice 22 1 #[(0, .tmp k)]) (x y : Int) (F : Act) (w : World) (hF : F.eval (.tmp k) = .agg #[.int .i64 x, .int .i64 y]) :
    (execOp F.eval o).run Try.prog w = .ok (.value (.slice (some ⟨w.heap.size, 0, none⟩) 1 1)) (w.alloc (.cells [.int .i64 x, .int .i64 y].toArray 24)) := by
  unfold execOp
  simp only [h, Sem.run_bind, List.map_toArray, List.map_cons, List.map_nil, hF, bs1_22]
  rfl
theorem bs0_bools {o : Oper} (h : o.op = .buildSlice 53 0 #[]) (F : Act) (w : World) : (execOp F.eval o).run Try.prog w = .ok (.value (.slice (some ⟨w.heap.size, 0, none⟩) 0 0)) (w.alloc (.cells #[] 4)) := by
  unfold execOp
  simp only [h, Sem.run_bind, List.map_toArray, List.map_nil, bs0_53]
  rfl
theorem bs1_bools {o : Oper} (h : o.op = .buildSlice 53 1 #[(0, .const (.bool true))]) (F : Act) (w : World) (_ : F.eval (.const (.bool true)) = .bool true) :
    (execOp F.eval o).run Try.prog w = .ok (.value (.slice (some ⟨w.heap.size, 0, none⟩) 1 1)) (w.alloc (.cells [.bool true].toArray 4)) := by
  unfold execOp
  simp only [h, Sem.run_bind, List.map_toArray, List.map_cons, List.map_nil, Act.eval, bs1_53]
  rfl
theorem ownsRow_slice {w : World} {base : Nat} {e : TypeId} {size : Nat} {v : Value} {n : Nat} {xs : List Value} (h : w.ownsRow base e size v n xs) (hn : 0 < n) : ∃ g c, v = .slice (some ⟨g, 0, none⟩) n c := by
  rcases h.2 with ⟨_, h0⟩ | ⟨g, cap, cur, hv, _⟩
  · omega
  · exact ⟨g, cap, hv⟩
/-- What lies ahead of a place, what lies behind it. -/
theorem row_ahead {w : World} {own : Tags} {t : Nat} {e : TypeId} {size : Nat} {A : Option Addr} {n c : Nat} {xs : List Value} (h : Row w own t e size (.slice A n c) n xs) (k : Nat) :
    ∀ ad, A = some ad → ∀ j u, (xs.take k)[j]? = some u → w.cell? (ad.add j) = some u := by
  intro ad ha j u hj
  obtain ⟨h1, h2, h3⟩ := (row_src h).2 ad ha
  rw [List.getElem?_take] at hj
  split at hj
  · have := h3 j u hj
    obtain ⟨b, o, s⟩ := ad
    simp only at h1 h2 this
    subst h1 h2
    unfold Addr.add
    split
    · rename_i h0; subst h0; exact this
    · simpa using this
  · cases hj
theorem row_behind {w : World} {own : Tags} {t : Nat} {e : TypeId} {size : Nat} {g n c : Nat} {xs : List Value} (h : Row w own t e size (.slice (some ⟨g, 0, none⟩) n c) n xs) (k : Nat) :
    ∀ j u, (xs.drop k)[j]? = some u → w.cell? ⟨g, k + j, none⟩ = some u := by
  intro j u hj
  rw [List.getElem?_drop] at hj
  exact ((row_src h).2 _ rfl).2.2 (k + j) u hj
theorem row_cap {w : World} {own : Tags} {t : Nat} {e : TypeId} {size : Nat} {A : Option Addr} {n c : Nat} {xs : List Value} (h : Row w own t e size (.slice A n c) n xs) : n ≤ c ∧ c ≤ 9223372036854775807 := by
  rcases h.1.2 with ⟨hv, h0⟩ | ⟨g, cap, cur, hv, _, _, h2, h3, _⟩
  · injection hv with _ _ hv; omega
  · injection hv with _ _ hv; subst hv; exact ⟨h2, by simpa only [maxLen] using h3⟩
end Go.Proofs.Ytgmlhpkhecbkoaa
