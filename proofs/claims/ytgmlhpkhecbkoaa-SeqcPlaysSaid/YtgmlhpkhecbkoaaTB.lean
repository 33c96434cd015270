/-
  (*Shared).All: its closure, for every loop body that leaves foreign blocks alone. Condition: the list lies in a foreign block.
  counterpanelaw36.all: it hands back the order. Condition: the shared axis lies in memory as ShAt says.
-/
import Derived.Test.YtgmlhpkhecbkoaaTA
import Derived.Test.YtgmlhpkhecbkoaaQ6
namespace Go.Proofs.Ytgmlhpkhecbkoaa
open Go.RowKit Go.Shelf

attribute [local go_sem] Oper.semAt_some

def onev (x : Id) : Array Value := #[.agg #[.int .i64 x.1, .int .i64 x.2]]
/-- The iterator's list: in a foreign block. -/
def It1 (Fo : World → Nat → Prop) (W : World) (A : Option Addr) (l : List Id) : Prop :=
  l ≠ [] → ∃ b off, A = some ⟨b, off, none⟩ ∧ Fo W b ∧ (∃ cs e m, W.heap[b]? = some (.cells cs e m)) ∧ ∀ i (h : i < l.length), W.cell? ⟨b, off + i * 2, none⟩ = some (.int .i64 l[i].1) ∧ W.cell? ⟨b, off + i * 2 + 1, none⟩ = some (.int .i64 l[i].2)
theorem It1.keep {Fo : World → Nat → Prop} {W W' : World} {A : Option Addr} {l : List Id} (h : It1 Fo W A l) (k : KF Fo W W') : It1 Fo W' A l := by
  intro hl
  obtain ⟨b, off, hA, hf, ⟨cs, e, m, hb⟩, hc⟩ := h hl
  obtain ⟨k1, k2⟩ := k b cs e m hb hf
  refine ⟨b, off, hA, k2, ⟨cs, e, m, k1.trans hb⟩, fun i hi => ?_⟩
  rw [World.cell?_of_block (w := W) (a := ⟨b, off + i * 2, none⟩) k1, World.cell?_of_block (w := W) (a := ⟨b, off + i * 2 + 1, none⟩) k1]
  exact hc i hi
theorem Row.toIt1 {Fo : World → Nat → Prop} {W : World} {own : Tags} {t n c : Nat} {A : Option Addr} {l : List Id} (h : Row W own t 24 2 (.slice A n c) n (idCells l)) (hF : ∀ b, (Value.slice A n c).ownBlock = some b → own b = t → Fo W b) : It1 Fo W A l := by
  intro hl
  obtain ⟨b, off, hA, ht, hb, hc⟩ := h.toIdsR.2 hl
  have hv : (Value.slice A n c).ownBlock = some b := by subst hA; rcases h.1.2 with ⟨hv, _⟩ | ⟨g, cap, cur, hv, _⟩ <;> (cases hv; try rfl)
  obtain ⟨cs, hblk⟩ := h.blk hv
  exact ⟨b, off, hA, hF b hv ht, ⟨cs, 24, (0, 0), hblk⟩, hc⟩
theorem take_at {l : List Id} {k : Nat} {z : Id} (h : l[k]? = some z) : l.take (k + 1) = l.take k ++ [z] := by
  obtain ⟨h3, h4⟩ := List.getElem?_eq_some_iff.1 h
  rw [List.take_succ_eq_append_getElem h3, h4]

set_option maxRecDepth 100000 in
set_option maxHeartbeats 4000000 in
theorem all80_in (n : Nat) (hn : 1 ≤ n) (l Bo c : Nat) (A : Option Addr) (ids : List Id) (hle : ids.length ≤ 1000) (Fo : World → Nat → Prop) (hFo : FoOK Fo) (J Jx : List Id → World → Prop) (W : World)
    (hJ : AbidesFrom W.heap.size J)
    (hY : ∀ pre x W1, J pre W1 → pre.length < ids.length → YieldAt Fence.wide (n - 1) Try.prog l (onev x) W1 fun e W' =>
      (e = .returned (.bool true) ∧ J (pre ++ [x]) W' ∧ KF Fo W1 W') ∨ (e = .returned (.bool false) ∧ Jx (pre ++ [x]) W'))
    (hBo : W.cell? ⟨Bo, 0, none⟩ = some (.slice A ids.length c)) (hI : It1 Fo W A ids) (h0 : J [] W) :
    CallsIn Fence.wide n Try.prog 80 #[.func (.yield l) #[] #[], .pointer (some ⟨Bo, 0, none⟩)] W fun e W' => (∃ v, e = .returned v) ∧
      ((∃ ys, ys = ids ∧ J ys W') ∨ (∃ pre, pre <+: ids ∧ Jx pre W')) := by
  have HJ := Lib.hid hJ
  have HY := Lib.hid hY
  have H0 := Lib.hid h0
  have HF := Lib.hid hFo
  have HI := Lib.hid hI
  clear hJ hY h0 hFo hI
  refine callsIn_of_wp Try.func80 rfl trivial ?_ rfl
  simp only [Try.ntmps80, List.size_toArray, List.length_cons, List.length_nil, Nat.reduceAdd, Nat.reduceSub, Array.replicate_succ, Array.replicate_zero, List.push_toArray, List.append_toArray, List.nil_append, List.cons_append]
  gi_wp2
  gi_loopw [7] (fun i wr => ∃ k : Nat, k ≤ ids.length ∧ i = .int .i64 k ∧ Hid (J (ids.take k) wr) ∧ Hid (It1 Fo wr A ids)) (fun i _ => ids.length - (intOf i).toNat)
  case atStart => exact ⟨0, Nat.zero_le _, rfl, H0.out, HI.out⟩
  case round =>
    obtain ⟨k, hk, rfl, hJk, hIk⟩ := hrel
    clear H0 HI
    by_cases hlt : k < ids.length
    · obtain ⟨b1, o1, rfl, _, _, hc1⟩ := hIk.out (fun e => by rw [e] at hlt; simp at hlt)
      obtain ⟨g1, g2⟩ := hc1 k hlt
      have hz := Lib.hid (take_at (List.getElem?_eq_getElem hlt))
      clear hc1
      generalize ids[k] = z at *
      obtain ⟨z1, z2⟩ := z
      dsimp only at g1 g2
      have hk0 : (0 : Int) ≤ (k : Int) := by omega
      have hkn : (k : Int) < (ids.length : Int) := by omega
      have hJ5 := HJ.out _ _ (wr.alloc (Obj.cells #[Value.int IntKind.i64 z1, Value.int IntKind.i64 z2] 24)) none hJk.out (grownBy_of_below ((Below.refl _ _).alloc (Nat.le_refl _) _)) (fun r e => by cases e)
      obtain ⟨fn, tmps, assign, body, hy, hR⟩ := HY.out _ (z1, z2) _ hJ5 (by rw [List.length_take]; omega)
      have hR' := hR.mono (R' := fun e W' => ∃ bb, e = .returned (.bool bb) ∧ Hid (if bb then J (ids.take k ++ [(z1, z2)]) W' ∧ KF Fo (wr.alloc (Obj.cells #[Value.int IntKind.i64 z1, Value.int IntKind.i64 z2] 24)) W' else Jx (ids.take k ++ [(z1, z2)]) W')) (by
        rintro e W' (⟨rfl, h1, h2⟩ | ⟨rfl, h1⟩)
        · exact ⟨true, rfl, h1, h2⟩
        · exact ⟨false, rfl, h1⟩)
      have HR := Lib.hid hR'
      clear hR'
      unfold onev at hy
      dsimp only at hy
      clear hR hJ5
      gi_wp2
      refine HR.out.mono ?_
      rintro e W3 ⟨bb, rfl, hbb⟩
      cases bb
      · have hx := hbb.out
        simp only [Bool.false_eq_true, if_false] at hx
        gi_wp2
        refine bodyPost_ret (results_none rfl _ _ _) rfl ?_
        exact ⟨⟨_, rfl⟩, .inr ⟨_, by rw [← hz.out]; exact List.take_prefix _ _, hx⟩⟩
      · have hx := hbb.out
        simp only [if_true] at hx
        obtain ⟨hj3, hk3⟩ := hx
        have HJ3 := Lib.hid hj3
        have HK3 := Lib.hid hk3
        clear hj3 hk3 hbb
        gi_wp2
        go_roundw
        case rel => exact ⟨k + 1, by omega, by go_num, by show J _ _; rw [hz.out]; exact HJ3.out, (hIk.out.keep (KF.below HF.out ((Below.refl _ _).alloc (Nat.le_refl _) _))).keep HK3.out⟩
        case measure => simp [intOf]; omega
    · have hkk : k = ids.length := by omega
      subst hkk
      have hkn : ¬ ((ids.length : Int) < (ids.length : Int)) := by omega
      gi_wp2
      go_end0
      have hj := hJk.out
      rw [List.take_length] at hj
      first | exact ⟨⟨_, rfl⟩, .inl hj⟩ | exact ⟨⟨_, rfl⟩, .inl ⟨_, rfl, hj⟩⟩

/-- q.All() hands back a value that goes through the list, or some of the first ones, for every loop body that leaves foreign blocks alone. -/
theorem all80_stops (n : Nat) (hn : 1 ≤ n) (Bo c : Nat) (A : Option Addr) (ids : List Id) (hle : ids.length ≤ 1000) (Fo : World → Nat → Prop) (hFo : FoOK Fo) (w : World)
    (hBo : w.cell? ⟨Bo, 0, none⟩ = some (.slice A ids.length c)) (hI : It1 Fo w A ids) :
    SeqStopsK Fence.wide n Try.prog 80 #[.pointer (some ⟨Bo, 0, none⟩)] onev (KF Fo) (fun ys => ys = ids) (fun pre => pre <+: ids) ids.length w := fun l J Jx W hW hJ _ hY h0 =>
  all80_in n hn l Bo c A ids hle Fo hFo J Jx W hJ hY ((hW.cell (p := ⟨Bo, 0, none⟩) (World.block_lt_of_cell? w _ hBo)).trans hBo) (hI.keep (KF.below hFo hW)) h0

set_option maxHeartbeats 1000000 in
/-- q.All(): the order is boxed; the function value captures the box. -/
theorem sall_c (w : World) (own : Tags) (t u p : Nat) (first : List Id) (puts cuts : List (Id × Id)) (h : ShAt w own t p first puts cuts) (hf : Fresh own w) (htu : t ≠ u) :
    Calls Try.prog 63 #[.pointer (some ⟨p, 0, none⟩)] w fun e w' => ∃ W own1 v, e = .returned (.func (.func 80) #[] #[.pointer (some ⟨W.heap.size, 0, none⟩)]) ∧ Tr own u w own1 W ∧ Row W own1 u 24 2 v (orderL first puts).length (idCells (orderL first puts)) ∧ w' = W.alloc (.cells #[v] 22) := by
  have HO := Lib.hid (order_c w own t u p first puts cuts h hf htu)
  clear h hf htu
  go_enter Try.func63, Try.ntmps63
  go_wp2_with fail
  refine HO.out.mono ?_
  rintro e w1 ⟨v, own1, rfl, tr1, row1⟩
  obtain ⟨A1, c1, rfl, _⟩ := row1.form
  have T1 := Lib.hid tr1
  have R1 := Lib.hid row1
  clear tr1 row1
  go_wp2_with fail
  go_ret
  exact ⟨w1, own1, _, rfl, T1.out, R1.out, rfl⟩
end Go.Proofs.Ytgmlhpkhecbkoaa
namespace Go.Proofs.Ytgmlhpkhecbkoaa
open Go.RowKit Go.Shelf

attribute [local go_sem] Oper.semAt_some

@[go_sem ↓] theorem Try.eqlfunc104 (w : World) (f : Nat) (lb : Array Value) : (binOp .eql 104 (.func (.func f) #[] lb) .nilFunc).run Try.prog w = .ok (.bool false) w := by kernel_rfl

/-- The list so far, in a box. -/
structure AI (w : World) (own0 : Tags) (u B : Nat) (l : List Id) (own : Tags) (v : Value) (W : World) : Prop where
  tr : Tr own0 u w own W
  box : Blk W B 22 #[v]
  row : Row W own u 24 2 v l.length (idCells l)
def Fo29 (B : Nat) (W : World) (k : Nat) : Prop := k ≠ B ∧ ∃ v, Blk W B 22 #[v] ∧ v.ownBlock ≠ some k
theorem fo29_ok (B : Nat) : FoOK (Fo29 B) := fun _ _ _ _ ⟨h1, v, h2, h3⟩ hg hr => ⟨h1, v, h2.own hg hr, h3⟩
section
variable {w W W1 : World} {own0 own : Tags} {u B : Nat} {l : List Id} {v : Value}
theorem AI.next (h : AI w own0 u B l own v W) (k : Below W.heap.size W W1) : AI w own0 u B l own v W1 :=
  ⟨h.tr.below k, h.box.kept (k.block B h.box.lt), h.row.keep (Same.below k)⟩
theorem AI.grow (h : AI w own0 u B l own v W) {row : Option Nat} {S : Nat} (hS : w.heap.size ≤ S) (hg : W.grownBy W1 row) (hr : ∀ r, row = some r → S ≤ r ∧ ∃ o : Obj, W.heap[r]? = some o ∧ o.isCells = false) : AI w own0 u B l own v W1 :=
  ⟨h.tr.grown hg (fun k e => .inr (Nat.le_trans hS (hr k e).1)), h.box.own hg (fun r e => (hr r e).2), h.row.own hg (fun r e => (hr r e).2)⟩
theorem AI.put {l' : List Id} {g c : Nat} (h : AI w own0 u B l own v W) (hB : w.heap.size ≤ B) (hg : W.grownBy W1 v.ownBlock) (hr : W1.ownsRow 0 24 2 (.slice (some ⟨g, 0, none⟩) l'.length c) l'.length (idCells l')) (hat : v.ownBlock = some g ∨ (W.heap.size ≤ g ∧ g < W1.heap.size)) :
    Blk W1 B 22 #[v] ∧ KF (Fo29 B) W (W1.setCell ⟨B, 0, none⟩ (.slice (some ⟨g, 0, none⟩) l'.length c)) ∧ ∃ own1, AI w own0 u B l' own1 (.slice (some ⟨g, 0, none⟩) l'.length c) (W1.setCell ⟨B, 0, none⟩ (.slice (some ⟨g, 0, none⟩) l'.length c)) := by
  obtain ⟨own1, tr1, _, r1⟩ := h.row.app2 (Tr.refl own u W) hg hr hat
  have b1 := h.box.beside h.row hg (by decide)
  have b2 : Blk (W1.setCell ⟨B, 0, none⟩ (.slice (some ⟨g, 0, none⟩) l'.length c)) B 22 #[.slice (some ⟨g, 0, none⟩) l'.length c] := by
    have := b1.store 0 (.slice (some ⟨g, 0, none⟩) l'.length c)
    simpa using this
  refine ⟨b1, fun k cs e m hk hf => ?_, own1, (h.tr.trans tr1).setCell (.inr hB) _, b2, r1.stored _ (fun _ _ h _ => h.ne_type b1 (by decide))⟩
  obtain ⟨f1, uI, f3, f4⟩ := hf
  have he : uI = v := by
    have := f3.symm.trans h.box
    simpa using this
  subst he
  have hlt : k < W.heap.size := (Array.getElem?_eq_some_iff.1 hk).1
  refine ⟨(Below.heap_setCell W1 _ _ k f1).trans (hg.block k hlt (fun e => f4 e.symm)), f1, _, b2, ?_⟩
  rcases hat with hat | hat
  · rw [hat] at f4; exact f4
  · simp [Value.ownBlock]; omega
theorem AI.foreign (h : AI w own0 u B l own v W) {k : Nat} (hk : W.heap.size ≤ k) (W1 : World) (hb : Below W.heap.size W W1) : Fo29 B W1 k := by
  have hB := h.box.lt
  refine ⟨by omega, v, h.box.kept (hb.block B hB), fun e => ?_⟩
  have := (h.row.1.lt k e).2; omega
end

set_option maxRecDepth 100000 in
set_option maxHeartbeats 4000000 in
theorem allq_c (w : World) (own : Tags) (t u p : Nat) (first : List Id) (puts cuts : List (Id × Id)) (h : ShAt w own t p first puts cuts) (hf : Fresh own w) (htu : t ≠ u) (hu : u ≠ 0) :
    Calls Try.prog 29 #[.pointer (some ⟨p, 0, none⟩)] w (ListP w own u (orderL first puts)) := by
  have hle : (orderL first puts).length ≤ 1000 := by have := h.wf.len; have := (order_facts h.wf).2.2; omega
  have HS := Lib.hid (sall_c (w.alloc (.cells #[.slice none 0 0] 22)) own t u p first puts cuts (h.next ((Below.refl _ _).alloc (Nat.le_refl _) _)) (hf.alloc _) htu)
  have HF := Lib.hid hf
  have Hu := Lib.hid hu
  clear h hf htu hu
  refine (callsIn_wide (n := 3)).1 (callsIn_of_wp_marks Try.func29 rfl trivial ?_ rfl)
  simp only [Try.ntmps29, List.size_toArray, List.length_cons, List.length_nil, Nat.reduceAdd, Nat.reduceSub, Array.replicate_succ, Array.replicate_zero, List.push_toArray, List.append_toArray, List.nil_append, List.cons_append]
  refine wpIn_wide.2 ?_
  go_wp2_with fail
  refine HS.out.mono ?_
  rintro e w1 ⟨W, own1, v, rfl, tr1, row1, rfl⟩
  obtain ⟨A1, c1, rfl, _⟩ := row1.form
  obtain ⟨OL, hOL⟩ : ∃ OL, orderL first puts = OL := ⟨_, rfl⟩
  rw [hOL] at row1 hle ⊢
  have a0 : Hid (AI w own u w.heap.size [] own1 (.slice none 0 0) (W.alloc (.cells #[.slice A1 OL.length c1] 22))) := by
    obtain ⟨b, ho⟩ := new_kept HF.out Hu.out tr1
    exact ⟨(((Tr.refl own u w).alloc _).trans tr1).alloc _, b.alloc _, by simpa [idCells] using Row.nil _ _ u 24 2⟩
  have hB0 : Hid ((W.alloc (.cells #[.slice A1 OL.length c1] 22)).cell? ⟨W.heap.size, 0, none⟩ = some (.slice A1 OL.length c1)) := (Blk.new W 22 #[.slice A1 OL.length c1]).cell 0
  have hI0 : Hid (It1 (Fo29 w.heap.size) (W.alloc (.cells #[.slice A1 OL.length c1] 22)) A1 OL) := (row1.keep (Same.alloc _)).toIt1 (fun b hb _ => by
    obtain ⟨cs, hblk⟩ := (row1.keep (Same.alloc (.cells #[.slice A1 OL.length c1] 22))).blk hb
    exact ⟨hblk.ne_type a0.out.box (by decide), _, a0.out.box, by simp [Value.ownBlock]⟩)
  have hsz : (W.alloc (.cells #[.slice A1 OL.length c1] 22)).heap.size = W.heap.size + 1 := by simp
  have hWw : w.heap.size < W.heap.size := by have := tr1.size; simp at this; omega
  generalize W.heap.size = SZ at *
  clear HS tr1 row1
  go_wp2_with fail
  generalize W.alloc (.cells #[.slice A1 OL.length c1] 22) = W0 at *
  refine (wpIn_wide (n := 3)).1 ?_
  refine wpIn_rangeFunc_ownH rfl (by omega) (gf := 80) (lb := #[.pointer (some ⟨SZ, 0, none⟩)]) rfl trivial (enters_of Try.func80 (by kernel_rfl) rfl)
    (all80_stops 2 (by omega) SZ c1 A1 OL hle (Fo29 w.heap.size) (fo29_ok _) W0 hB0.out hI0.out) KF.trans (fun W l o o' _ h1 h2 _ => KF.put (fo29_ok _) W l o o' h1 h2) (Below.refl _ _) (fun _ => rfl)
    (fun pre W => ∃ own1 v, AI w own u w.heap.size pre own1 v W) (fun _ _ _ => False)
    (fun pre W W' row hs hg hr => by
      obtain ⟨own1, v, ci⟩ := hs
      exact ⟨own1, v, ci.grow (by omega) hg hr⟩) (fun _ _ _ _ _ hs _ _ => hs) ⟨_, _, a0.out⟩
    (fun x a' W => ∃ Bx, Fo29 w.heap.size W Bx ∧ Blk W Bx 24 #[.int .i64 x.1, .int .i64 x.2] ∧ a' = { tmps := #[.pointer (some ⟨p, 0, none⟩), undef, .slice none 0 0, .pointer (some ⟨w.heap.size, 0, none⟩), .func (.func 80) #[] #[.pointer (some ⟨SZ, 0, none⟩)], .pointer (some ⟨Bx, 0, none⟩), .pointer (some ⟨p, 0, none⟩), .func (.func 80) #[] #[.pointer (some ⟨SZ, 0, none⟩)], .func (.func 80) #[] #[.pointer (some ⟨SZ, 0, none⟩)], .bool false, .func (.func 80) #[] #[.pointer (some ⟨SZ, 0, none⟩)], .agg #[.int .i64 x.1, .int .i64 x.2], undef, undef, undef, undef, undef], defers := [] })
    (fun x a' _ W W' row hs hg hr => by
      obtain ⟨Bx, h1, h2, h3⟩ := hs
      exact ⟨Bx, fo29_ok _ W W' row Bx h1 hg (fun r e => (hr r e).2), h2.own hg (fun r e => (hr r e).2), h3⟩) ?assign ?body ?done ?stop
  case assign =>
    rintro l pre x W K ⟨own1, v, ci⟩ hK
    unfold onev
    gi_wp2
    exact hK _ _ ((KeepsOthers.alloc _ _).from _) (KF.below (fo29_ok _) ((Below.refl _ W).alloc (Nat.le_refl _) _)) ⟨own1, v, ci.next ((Below.refl _ W).alloc (Nat.le_refl _) _)⟩ ⟨W.heap.size, ci.foreign (Nat.le_refl _) _ ((Below.refl _ W).alloc (Nat.le_refl _) _), Blk.new W 24 _, rfl⟩
  case body =>
    rintro l pre x a' W hl ⟨r, hr⟩ ⟨own1, v, ci⟩ ⟨Bx, hf, bX, rfl⟩ hlt
    obtain ⟨z1, z2⟩ := x
    dsimp only at bX ⊢
    have hn2 : pre.length < 1000 := by omega
    obtain ⟨AI, cI, rfl, _⟩ := ci.row.form
    have cb := ci.box.cell 0
    have hB := ci.box.lt
    have e0 := bX.cell 0
    have e1 := bX.cell 1
    simp only [List.getElem?_toArray, List.getElem?_cons_zero, List.getElem?_cons_succ] at cb e0 e1
    have bl1 : Below W.heap.size W (W.alloc (.cells #[.int .i64 z1, .int .i64 z2] 24)) := (Below.refl _ W).alloc (Nat.le_refl _) _
    have ci1 := Lib.hid (ci.next bl1)
    obtain ⟨i0, hi, hz0, hz1, hz2⟩ := info_parts Try.info24
    have KF0 := Lib.hid (KF.below (fo29_ok w.heap.size) bl1)
    clear ci hf bX hr bl1 hlt hl a0
    gi_wp2_with (gi_at_builtin; refine list_round (by rintro ⟨_, _, h⟩; exact h) _ _ _ (by kernel_rfl) ?_; refine wpList_append_own_at _ rfl _ _ _ rfl 0 24 i0 _ 2 16 Try.underlying22 hi hz0 hz1 hz2 rfl (by omega) _ _ _ rfl ci1.out.row.1 ⟨W.heap.size, 0, none⟩ 1 1 [.int .i64 z1, .int .i64 z2] rfl rfl (World.news_of_block (cs := #[.int .i64 z1, .int .i64 z2]) (t := 24) (fr := (0, 0)) (heap_alloc_new W _)) (by simp [Value.oneCell']) (by simp only [maxLen]; omega) (by omega) (Nat.zero_le _) ?_)
    intro v' w2 hown2 hgrow2 _ hat2
    obtain ⟨gN, cN, rfl⟩ := ownsRow_slice hown2 (by omega)
    have hr2 : w2.ownsRow 0 24 2 (.slice (some ⟨gN, 0, none⟩) (pre ++ [(z1, z2)]).length cN) (pre ++ [(z1, z2)]).length (idCells (pre ++ [(z1, z2)])) := by
      rw [List.length_append, List.length_singleton]
      simpa [idCells_append, idCells] using hown2
    obtain ⟨b1, kf1, own2, ci2⟩ := ci1.out.put (l' := pre ++ [(z1, z2)]) (Nat.le_refl _) hgrow2 hr2 (hat2.imp (fun e => e.symm.trans rfl) (fun e => by
      have e' : gN = (W.alloc (.cells #[.int .i64 z1, .int .i64 z2] 24)).heap.size := by simpa [Value.ownBlock] using e
      exact ⟨by omega, (hown2.lt gN rfl).2⟩))
    have KO1 := Lib.hid ((KeepsOthers.alloc W (.cells #[.int .i64 z1, .int .i64 z2] 24)).trans ((keeps_app ci1.out.row hgrow2).trans (KeepsOthers.setCell w2 ⟨w.heap.size, 0, none⟩ (.slice (some ⟨gN, 0, none⟩) (pre.length + 1) cN))))
    have f0 := b1.frozen 0
    have g0 := b1.cell 0
    simp only [List.getElem?_toArray, List.getElem?_cons_zero] at g0
    have KF1 := Lib.hid kf1
    have CI2 := Lib.hid ci2
    rw [List.length_append, List.length_singleton] at KF1 CI2
    clear kf1 ci2 hown2 hgrow2 hat2 hr2 b1 e0 e1 cb
    go_wp2_with fail
    exact ⟨KO1.out.from _, KF0.out.trans KF1.out, own2, _, CI2.out⟩
  case done =>
    rintro D ys W hD rfl ⟨own1, v, ci⟩ hK
    have cb := ci.box.cell 0
    have hB := ci.box.lt
    simp only [List.getElem?_toArray, List.getElem?_cons_zero] at cb
    have HCI := Lib.hid ci
    have HK := Lib.hid hK
    clear ci hK
    dsimp only
    go_wp2_with fail
    refine ⟨by simp, .inl ⟨_, _, rfl, run_takeDeferred HK.out, ?_⟩⟩
    have ci5 := HCI.out.grow (W1 := W.putObj D (.deferred none)) (row := some D) (S := w.heap.size) (Nat.le_refl _) (grownBy_putObj' W D (.deferred none)) (fun r e => by cases e; exact ⟨by omega, _, HK.out, rfl⟩)
    exact ⟨_, results_tmp rfl _ _ _, v, own1, rfl, ci5.tr, by rw [hOL]; exact ci5.row⟩
  case stop =>
    rintro D c pre W _ _ h _
    exact h.elim
end Go.Proofs.Ytgmlhpkhecbkoaa
