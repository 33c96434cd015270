/-
  append(append(append([]T{}, a...), x), b...) in a region that draws its order: a new row. Condition: a and b can be read.
-/
import Derived.Test.YtifdpcjfjoekmaaB1
namespace Go.Proofs.Ytifdpcjfjoekmaa
open Go.RowKit

theorem Below.grew {B : Nat} {w w' : World} {row : Option Nat} (hg : w.grownBy w' row) (hr : ∀ k, row = some k → B ≤ k) (hB : B ≤ w.heap.size) : Below B w w' :=
  ⟨hg.os, hg.tape, hg.output, hg.size, fun k hk => hg.block k (by omega) (fun e => by have := hr k e.symm; omega)⟩
theorem put_comm (F : Act) {d e : Tmp} (h : d ≠ e) (u v : Value) : (F.put (some d) u).put (some e) v = (F.put (some e) v).put (some d) u := by
  unfold Act.put
  simp only []
  rw [Array.setIfInBounds_comm _ _ h]
theorem eval_same (F : Act) (d : Tmp) (v : Value) (h : d < F.tmps.size) : (F.put (some d) v).eval (.tmp d) = v := by
  simp [Act.put, Act.eval, h]
theorem eval_ne (F : Act) (d : Tmp) (v : Value) (x : Operand) (h : x ≠ .tmp d) : (F.put (some d) v).eval x = F.eval x :=
  Act.eval_put fun d' hd hx => h (by cases hd; exact hx)
theorem size_put' (F : Act) (d : Tmp) (v : Value) : (F.put (some d) v).tmps.size = F.tmps.size := by simp [Act.put]

section
variable {P : Program} {l : List Oper} {Q : Exit → Act → World → Prop} {need : Nat → Bool} {g : Nat} {listed : Array Bool} {F : Act} {w : World}
theorem app3 (cells : List (Addr × Value)) (T e : TypeId) (i : TypeInfo) (z : Value) (size bytes : Nat) (ht : P.underlying T = some (.slice e)) (hi : P.info? e = some i) (hz : i.zero = some z)
    (hsize : i.size = size) (hby : i.bytes = bytes) (hzs : z.cells.size = size) (hsz : 0 < size) (hb100 : bytes ≤ 1000)
    (n1 n8 n10 n11 n18 : Nat) (d1 d8 d10 d11 d18 s7 s17 : Tmp) (X : Operand) (o1 o8 o10 o11 o18 : Oper)
    (e1 : l.toArray[n1]? = some o1) (e8 : l.toArray[n8]? = some o8) (e10 : l.toArray[n10]? = some o10) (e11 : l.toArray[n11]? = some o11) (e18 : l.toArray[n18]? = some o18)
    (k1 : o1.guard = none) (k8 : o8.guard = none) (k10 : o10.guard = none) (k11 : o11.guard = none) (k18 : o18.guard = none)
    (q1 : o1.dst = some d1) (q8 : o8.dst = some d8) (q10 : o10.dst = some d10) (q11 : o11.dst = some d11) (q18 : o18.dst = some d18)
    (p8 : o8.op = .call { callee := .builtin .append, args := #[.tmp d1, .tmp s7], argTypes := #[T, T] })
    (p11 : o11.op = .call { callee := .builtin .append, args := #[.tmp d8, .tmp d10], argTypes := #[T, T] })
    (p18 : o18.op = .call { callee := .builtin .append, args := #[.tmp d11, .tmp s17], argTypes := #[T, T] })
    (cs : List Value) (u : Value)
    (p1 : ∀ (F : Act) (w : World), (execOp F.eval o1).run P w = .ok (.value (.slice (some ⟨w.heap.size, 0, none⟩) 0 0)) (w.alloc (.cells #[] e)))
    (p10 : ∀ (F : Act) (w : World), F.eval X = u → (execOp F.eval o10).run P w = .ok (.value (.slice (some ⟨w.heap.size, 0, none⟩) 1 1)) (w.alloc (.cells cs.toArray e)))
    (hd : [d1, d8, d10, d11, d18, s7, s17].Nodup) (hdl : ∀ d ∈ [d1, d8, d10, d11, d18], d < F.tmps.size) (hX : X ≠ .tmp d1 ∧ X ≠ .tmp d8) (hnn : [n1, n8, n10, n11, n18].Nodup)
    (r0 : Region.ready .any l.toArray listed = [n1, n10]) (r1 : Region.ready .any l.toArray (listed.setIfInBounds n1 true) = [n8, n10]) (r10 : Region.ready .any l.toArray (listed.setIfInBounds n10 true) = [n1])
    (r18 : Region.ready .any l.toArray ((listed.setIfInBounds n1 true).setIfInBounds n8 true) = [n10]) (r110 : Region.ready .any l.toArray ((listed.setIfInBounds n1 true).setIfInBounds n10 true) = [n8])
    (r3 : Region.ready .any l.toArray (((listed.setIfInBounds n1 true).setIfInBounds n8 true).setIfInBounds n10 true) = [n11]) (r4 : Region.ready .any l.toArray ((((listed.setIfInBounds n1 true).setIfInBounds n8 true).setIfInBounds n10 true).setIfInBounds n11 true) = [n18])
    (hS : AllCells w cells) (A1 A2 : Option Addr) (m1 c1 m2 c2 : Nat) (xs1 xs2 : List Value)
    (hx1 : F.eval (.tmp s7) = .slice A1 m1 c1) (hA1 : A1 = none → m1 = 0 ∧ c1 = 0) (hl1 : xs1.length = m1 * size) (hn1 : ∀ ad, A1 = some ad → ∀ j u, xs1[j]? = some u → w.cell? (ad.add j) = some u) (ho1 : ∀ u ∈ xs1, u.oneCell' = true)
    (hx2 : F.eval (.tmp s17) = .slice A2 m2 c2) (hA2 : A2 = none → m2 = 0 ∧ c2 = 0) (hl2 : xs2.length = m2 * size) (hn2 : ∀ ad, A2 = some ad → ∀ j u, xs2[j]? = some u → w.cell? (ad.add j) = some u) (ho2 : ∀ u ∈ xs2, u.oneCell' = true)
    (hu : F.eval X = u) (hcl : cs.length = size) (hco : ∀ u ∈ cs, u.oneCell' = true) (hm : m1 + 1 + m2 ≤ 2000)
    (h : ∀ v1 v8 v10 v11 v18 wk, wk.ownsRow w.heap.size e size v18 (m1 + 1 + m2) (xs1 ++ cs ++ xs2) → Below w.heap.size w wk →
      wpAnyN P .any l.toArray Q (fun w' => AllCells w' cells) need g (((((listed.setIfInBounds n1 true).setIfInBounds n8 true).setIfInBounds n10 true).setIfInBounds n11 true).setIfInBounds n18 true) (((((F.put (some d1) v1).put (some d8) v8).put (some d10) v10).put (some d11) v11).put (some d18) v18) wk) :
    wpAnyN P .any l.toArray Q (fun w' => AllCells w' cells) need (g + 5) listed F w := by
  have hmb : (m1 + 1 + m2) * bytes ≤ 2000 * 1000 := Nat.mul_le_mul hm hb100
  have hmb1 : (m1 + 1) * bytes ≤ 2000 * 1000 := Nat.mul_le_mul (by omega) hb100
  have hmb0 : (0 + m1) * bytes ≤ 2000 * 1000 := Nat.mul_le_mul (by omega) hb100
  simp only [List.nodup_cons, List.mem_cons, List.not_mem_nil, or_false, not_or, not_false_eq_true, List.nodup_nil, and_true] at hd hnn
  simp only [List.mem_cons, List.not_mem_nil, or_false, forall_eq_or_imp, forall_eq] at hdl
  have src : ∀ {A : Option Addr} {xs : List Value} {wk : World}, (∀ ad, A = some ad → ∀ j u, xs[j]? = some u → w.cell? (ad.add j) = some u) → Below w.heap.size w wk → ∀ ad, A = some ad → ∀ j u, xs[j]? = some u → wk.cell? (ad.add j) = some u :=
    fun hn hb ad ha j u hj => (hb.cell (p := ad.add j) (World.block_lt_of_cell? w _ (hn ad ha j u hj))).trans (hn ad ha j u hj)
  -- behind 1, 8 and 10
  have fin3 : ∀ v1 v8 gC wk, wk.ownsRow w.heap.size e size v8 m1 xs1 → Below w.heap.size w wk → Blk wk gC e cs.toArray → v8.ownBlock ≠ some gC →
      wpAnyN P .any l.toArray Q (fun w' => AllCells w' cells) need (g + 2) (((listed.setIfInBounds n1 true).setIfInBounds n8 true).setIfInBounds n10 true) (((F.put (some d1) v1).put (some d8) v8).put (some d10) (.slice (some ⟨gC, 0, none⟩) 1 1)) wk := by
    intro v1 v8 gC wk hr hb hc hne
    refine anyN_one n11 o11 r3 e11 ?_
    refine wpList_append_src wk k11 _ _ _ p11 w.heap.size e i z size bytes ht hi hz hsize hby hzs hsz v8 m1 xs1 ?_ hr (some ⟨gC, 0, none⟩) 1 1 cs ?_ (fun h => by cases h) (by rw [hcl]; omega) ?_ hco (by unfold maxLen; omega) (by omega) hb.size ?_
    · rw [eval_ne _ _ _ _ (by simp [hd]), eval_same _ _ _ (by rw [size_put']; exact hdl.2.1)]
    · rw [eval_same _ _ _ (by rw [size_put', size_put']; exact hdl.2.2.1)]
    · intro ad had j u hj
      cases had
      exact World.news_of_block hc j u (by simpa using hj)
    · intro v11 w11 hr11 hg11 hat11
      rw [q11]
      have hb11 : Below w.heap.size w w11 := hb.trans (Below.grew hg11 (ownsRow_base hr) hb.size)
      show (_ → _) ∧ _
      refine ⟨fun _ => hS.below hb11, ?_⟩
      refine anyN_one n18 o18 r4 e18 ?_
      refine wpList_append_src w11 k18 _ _ _ p18 w.heap.size e i z size bytes ht hi hz hsize hby hzs hsz v11 (m1 + 1) (xs1 ++ cs) ?_ hr11 A2 m2 c2 xs2 ?_ hA2 hl2 (src hn2 hb11) ho2 (by unfold maxLen; omega) (by omega) hb11.size ?_
      · rw [eval_same _ _ _ (by rw [size_put', size_put', size_put']; exact hdl.2.2.2.1)]
      · rw [eval_ne _ _ _ _ (by simp; intro h; simp [h] at hd), eval_ne _ _ _ _ (by simp; intro h; simp [h] at hd), eval_ne _ _ _ _ (by simp; intro h; simp [h] at hd), eval_ne _ _ _ _ (by simp; intro h; simp [h] at hd)]; exact hx2
      · intro v18 w18 hr18 hg18 hat18
        rw [q18]
        have hb18 : Below w.heap.size w w18 := hb11.trans (Below.grew hg18 (ownsRow_base hr11) hb11.size)
        show (_ → _) ∧ _
        exact ⟨fun _ => hS.below hb18, h _ _ _ _ _ _ hr18 hb18⟩
  -- behind 1 and 10
  have fin2 : ∀ g1 gC wk, wk.ownsRow w.heap.size e size (.slice (some ⟨g1, 0, none⟩) 0 0) 0 [] → Below w.heap.size w wk → Blk wk gC e cs.toArray → g1 ≠ gC →
      wpAnyN P .any l.toArray Q (fun w' => AllCells w' cells) need (g + 3) ((listed.setIfInBounds n1 true).setIfInBounds n10 true) ((F.put (some d1) (.slice (some ⟨g1, 0, none⟩) 0 0)).put (some d10) (.slice (some ⟨gC, 0, none⟩) 1 1)) wk := by
    intro g1 gC wk hr hb hc hne
    refine anyN_one n8 o8 r110 e8 ?_
    refine wpList_append_src wk k8 _ _ _ p8 w.heap.size e i z size bytes ht hi hz hsize hby hzs hsz _ 0 [] ?_ hr A1 m1 c1 xs1 ?_ hA1 hl1 (src hn1 hb) ho1 (by unfold maxLen; omega) (by omega) hb.size ?_
    · rw [eval_ne _ _ _ _ (by simp [hd]), eval_same _ _ _ hdl.1]
    · rw [eval_ne _ _ _ _ (by simp; intro h; simp [h] at hd), eval_ne _ _ _ _ (by simp; intro h; simp [h] at hd)]; exact hx1
    · intro v8 w8 hr8 hg8 hat8
      rw [q8, put_comm _ (by intro h; simp [h] at hd), Array.setIfInBounds_comm _ _ (by intro h; simp [h] at hnn)]
      have hb8 : Below w.heap.size w w8 := hb.trans (Below.grew hg8 (ownsRow_base hr) hb.size)
      show (_ → _) ∧ _
      refine ⟨fun _ => hS.below hb8, ?_⟩
      refine fin3 _ _ _ _ (by simpa using hr8) hb8 (hc.kept (hg8.block gC hc.lt (by simp [Value.ownBlock]; exact fun h => hne h.symm))) (fun e => ?_)
      rcases hat8 with hat | hat
      · rw [hat] at e; simp [Value.ownBlock] at e; exact hne e
      · rw [hat] at e; have := hc.lt; simp at e; omega
  refine anyN_two n1 n10 o1 o10 r0 e1 e10 ?_ ?_
  · refine wpList_plain k1 fun K hK => ?_
    unfold Oper.wp
    rw [p1]
    refine hK _ _ ?_
    rw [q1]
    have hb1 : Below w.heap.size w (w.alloc (.cells #[] e)) := (Below.refl _ _).alloc (Nat.le_refl _) _
    have hr1 : (w.alloc (.cells #[] e)).ownsRow w.heap.size e size (.slice (some ⟨w.heap.size, 0, none⟩) 0 0) 0 [] := World.ownsRow_lit w #[] 0 (Nat.le_refl _) (Nat.zero_le _) (by simp)
    show (_ → _) ∧ _
    refine ⟨fun _ => hS.below hb1, ?_⟩
    refine anyN_two n8 n10 o8 o10 r1 e8 e10 ?_ ?_
    · refine wpList_append_src _ k8 _ _ _ p8 w.heap.size e i z size bytes ht hi hz hsize hby hzs hsz _ 0 [] ?_ hr1 A1 m1 c1 xs1 ?_ hA1 hl1 (src hn1 hb1) ho1 (by unfold maxLen; omega) (by omega) hb1.size ?_
      · rw [eval_same _ _ _ hdl.1]
      · rw [eval_ne _ _ _ _ (by simp; intro h; simp [h] at hd)]; exact hx1
      · intro v8 w8 hr8 hg8 hat8
        rw [q8]
        have hb8 : Below w.heap.size w w8 := hb1.trans (Below.grew hg8 (ownsRow_base hr1) hb1.size)
        show (_ → _) ∧ _
        refine ⟨fun _ => hS.below hb8, ?_⟩
        refine anyN_one n10 o10 r18 e10 ?_
        refine wpList_plain k10 fun K hK => ?_
        unfold Oper.wp
        rw [p10 _ _ (by rw [eval_ne _ _ _ _ hX.2, eval_ne _ _ _ _ hX.1]; exact hu)]
        refine hK _ _ ?_
        rw [q10]
        have hb10 : Below w.heap.size w (w8.alloc (.cells cs.toArray e)) := hb8.trans ((Below.refl _ _).alloc hb8.size _)
        show (_ → _) ∧ _
        refine ⟨fun _ => hS.below hb10, ?_⟩
        refine fin3 _ _ _ _ (ownsRow_kept (by simpa using hr8) (fun k _ hk => Below.heap_alloc w8 _ k hk)) hb10 (Blk.new w8 e _) (fun e => ?_)
        have := (hr8.lt _ e).2
        omega
    · refine wpList_plain k10 fun K hK => ?_
      unfold Oper.wp
      rw [p10 _ _ (by rw [eval_ne _ _ _ _ hX.1]; exact hu)]
      refine hK _ _ ?_
      rw [q10]
      have hb10 : Below w.heap.size w ((w.alloc (.cells #[] e)).alloc (.cells cs.toArray e)) := hb1.trans ((Below.refl _ _).alloc (by simp) _)
      show (_ → _) ∧ _
      refine ⟨fun _ => hS.below hb10, ?_⟩
      exact fin2 _ _ _ (ownsRow_kept hr1 (fun k _ hk => Below.heap_alloc _ _ k hk)) hb10 (Blk.new _ e _) (by simp)
  · refine wpList_plain k10 fun K hK => ?_
    unfold Oper.wp
    rw [p10 _ _ hu]
    refine hK _ _ ?_
    rw [q10]
    have hb10 : Below w.heap.size w (w.alloc (.cells cs.toArray e)) := (Below.refl _ _).alloc (Nat.le_refl _) _
    show (_ → _) ∧ _
    refine ⟨fun _ => hS.below hb10, ?_⟩
    refine anyN_one n1 o1 r10 e1 ?_
    refine wpList_plain k1 fun K hK => ?_
    unfold Oper.wp
    rw [p1]
    refine hK _ _ ?_
    rw [q1, put_comm _ (by intro h; simp [h] at hd), Array.setIfInBounds_comm _ _ (by intro h; simp [h] at hnn)]
    have hb1 : Below w.heap.size w ((w.alloc (.cells cs.toArray e)).alloc (.cells #[] e)) := hb10.trans ((Below.refl _ _).alloc (by simp) _)
    show (_ → _) ∧ _
    refine ⟨fun _ => hS.below hb1, ?_⟩
    exact fin2 _ _ _ (World.ownsRow_lit _ #[] 0 (by simp) (Nat.zero_le _) (by simp)) hb1 ((Blk.new w e _).alloc _) (by simp)
end
end Go.Proofs.Ytifdpcjfjoekmaa
