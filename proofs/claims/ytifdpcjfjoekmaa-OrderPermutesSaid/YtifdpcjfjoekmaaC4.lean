/-
  counterpaneref01: strip, less, Neg, wide: their contracts. Conditions: those said in each statement.
-/
import Derived.Test.YtifdpcjfjoekmaaB2
import Derived.Test.YtifdpcjfjoekmaaC3
namespace Go.Proofs.Ytifdpcjfjoekmaa
open Go.RowKit

/-- A slice of ints that can be read. -/
def IntsR (w : World) (A : Option Addr) (l : List Nat) : Prop :=
  l ≠ [] → ∃ b off, A = some ⟨b, off, none⟩ ∧ b < w.heap.size ∧ ∀ (i x : Nat), l[i]? = some x → w.cell? ⟨b, off + i, none⟩ = some (.int .i64 (x : Int))
theorem IntsR.next {w w' : World} {A : Option Addr} {l : List Nat} (h : IntsR w A l) (hb : Below w.heap.size w w') : IntsR w' A l := fun hl => by
  obtain ⟨b, off, hA, hlt, hc⟩ := h hl
  exact ⟨b, off, hA, Nat.lt_of_lt_of_le hlt hb.size, fun i x hx => (hb.cell (p := ⟨b, off + i, none⟩) hlt).trans (hc i x hx)⟩
theorem IntsR.tail {w : World} {b off : Nat} {d : Nat} {l : List Nat} (h : IntsR w (some ⟨b, off, none⟩) (d :: l)) : IntsR w (some ⟨b, off + 1, none⟩) l := fun _ => by
  obtain ⟨b', off', hA, hlt, hc⟩ := h (by simp)
  cases hA
  exact ⟨b, off + 1, rfl, hlt, fun i x hx => by rw [Nat.add_assoc, Nat.add_comm 1 i]; exact hc (i + 1) x (by simpa using hx)⟩
theorem intsL_get {l : List Nat} {i x : Nat} (h : l[i]? = some x) : (intsL l)[i]? = some (.int .i64 (x : Int)) := by simp [intsL, h]
theorem intsR_of_row {w : World} {base : Nat} {A : Option Addr} {n c : Nat} {l : List Nat} (h : w.ownsRow base 3 1 (.slice A n c) n (intsL l)) : n = l.length ∧ n ≤ c ∧ c ≤ maxLen ∧ IntsR w A l := by
  have hn : n = l.length := by have := h.1; simpa [intsL] using this.symm
  rcases h.2 with ⟨hv, h0⟩ | ⟨g, cap, cur, hv, _, hg, h1, h2, _⟩
  · cases hv
    exact ⟨hn, Nat.le_refl _, by simp [maxLen], fun hl => absurd (List.length_eq_zero_iff.1 hn.symm) hl⟩
  · cases hv
    refine ⟨hn, h1, h2, fun _ => ⟨g, 0, rfl, (Array.getElem?_eq_some_iff.1 hg).1, fun i x hx => ?_⟩⟩
    have c1 := h.cells (g := g) rfl i _ (intsL_get hx)
    have add : (⟨g, 0, none⟩ : Addr).add i = ⟨g, 0 + i, none⟩ := by unfold Addr.add; split <;> simp_all
    rw [add] at c1
    exact c1

def pt2 (W : World) (X : Nat) (a b : Value) : World := (W.setCell ⟨X, 0, none⟩ a).setCell ⟨X, 1, none⟩ b
theorem blk_pt2 {W : World} {X : Nat} {ty : TypeId} {u0 u1 : Value} (h : Blk W X ty #[u0, u1]) (a b : Value) : Blk (pt2 W X a b) X ty #[a, b] := by
  have := (h.store 0 a).store 1 b
  simp only [List.setIfInBounds_toArray, List.set_cons_succ, List.set_cons_zero] at this
  exact this
theorem blk_pt2far {W : World} {X Y : Nat} {ty : TypeId} {cs : Array Value} (h : Blk W Y ty cs) (hne : Y ≠ X) (a b : Value) : Blk (pt2 W X a b) Y ty cs := (h.far hne a).far hne b
theorem below_pt2 {n : Nat} {w W : World} {X : Nat} (h : Below n w W) (hX : n ≤ X) (a b : Value) : Below n w (pt2 W X a b) := (h.setCell hX a).setCell hX b
def slLen : Value → Nat
  | .slice _ m _ => m
  | _ => 0
def StripP (w : World) (l : List Nat) (e : Ending) (w' : World) : Prop := w' = w ∧ ∃ A c, e = .returned (.slice A (stripL l).length c)
theorem stripL_pos {d : Nat} {l : List Nat} (h : d ≠ 0) : stripL (d :: l) = d :: l := by
  cases d with
  | zero => exact absurd rfl h
  | succ d => rw [stripL]; intro _ e; cases e
set_option maxRecDepth 100000 in
set_option maxHeartbeats 4000000 in
theorem strip_c (A : Option Addr) (n c : Nat) (l : List Nat) (w : World) (hA : IntsR w A l) (hn : l.length = n) (hc : n ≤ c) (hm : c ≤ maxLen) :
    Calls Try.prog 32 #[.slice A n c] w (StripP w l) := by
  have HA := Lib.hid hA
  have HN := Lib.hid hn
  have hm' : c ≤ 9223372036854775807 := Nat.le_trans hm (by simp [maxLen])
  clear hA hn hm
  go_enter Try.func32, Try.ntmps32
  go_wp2_with fail
  go_loop [0] (fun v => ∃ (B : Option Addr) (m k : Nat) (r : List Nat), v = .slice B m k ∧ m ≤ k ∧ k ≤ 9223372036854775807 ∧ Hid (r.length = m) ∧ Hid (IntsR w B r) ∧ Hid (stripL l = stripL r)) slLen
  case atStart => exact ⟨A, n, c, l, rfl, hc, hm', HN, HA, rfl⟩
  case round =>
    obtain ⟨B, m, k, r, rfl, hmk, hk, hr, hB, hs⟩ := hrel
    cases r with
    | nil =>
      obtain rfl : m = 0 := hr.out.symm
      go_wp2_with fail
      go_ret
      exact ⟨rfl, B, k, by rw [hs.out]; rfl⟩
    | cons d r =>
      obtain ⟨q, rfl⟩ : ∃ q, m = q + 1 := ⟨r.length, hr.out.symm⟩
      obtain ⟨b, off, rfl, hlt, hcell⟩ := hB.out (by simp)
      have c0 := hcell 0 d rfl
      rw [Nat.add_zero] at c0
      have hq : (0 : Int) < ((q + 1 : Nat) : Int) := by omega
      by_cases hd : d = 0
      · subst hd
        have HT := Lib.hid (IntsR.tail hB.out)
        have hkk : 1 ≤ k := by omega
        clear hcell
        go_wp2_with fail
        refine ⟨⟨_, q, k - 1, r, rfl, by omega, by omega, Lib.hid (by have := hr.out; simpa using this), Lib.hid (fun hr0 => ?_), Lib.hid hs.out⟩, by simp [slLen]⟩
        have hk2 : ¬ k = 1 := fun e => by
          have := hr.out
          simp only [List.length_cons] at this
          cases r with
          | nil => exact hr0 rfl
          | cons _ _ => simp at this; omega
        rw [if_neg hk2]
        exact HT.out hr0
      · have hdb : ((d : Int) == 0) = false := by rw [beq_eq_false_iff_ne]; omega
        have HS := Lib.hid (hs.out.trans (stripL_pos (l := r) hd))
        have hl : Hid ((d :: r).length = q + 1) := hr
        clear hcell
        go_wp2_with fail
        go_ret
        refine ⟨rfl, some ⟨b, off, none⟩, k, ?_⟩
        rw [HS.out, hl.out]
        rfl

set_option maxRecDepth 100000 in
set_option maxHeartbeats 4000000 in
theorem less_c (A B : Option Addr) (n ca cb : Nat) (x y : List Nat) (w : World) (hA : IntsR w A x) (hB : IntsR w B y) (hx : x.length = n) (hy : y.length = n) (hn : n ≤ 1000000) :
    Calls Try.prog 43 #[.slice A n ca, .slice B n cb] w fun e w' => e = .returned (.bool (lessL x y)) ∧ Below w.heap.size w w' := by
  have HA := Lib.hid hA
  have HB := Lib.hid hB
  have HX := Lib.hid hx
  have HY := Lib.hid hy
  clear hA hB hx hy
  go_enter Try.func43, Try.ntmps43
  go_wp2_with fail
  go_loopw [5] (fun i wr => ∃ j : Nat, j ≤ n ∧ i = .int .i64 j ∧ Hid (lessL x y = lessL (x.drop j) (y.drop j)) ∧ Hid (Below w.heap.size w wr)) (fun i _ => n - (intOf i).toNat)
  case atStart => exact ⟨0, Nat.zero_le _, rfl, rfl, Below.refl _ _⟩
  case round =>
    obtain ⟨j, hj, rfl, hc, hb⟩ := hrel
    by_cases hlt : j < n
    · have hjx : j < x.length := by rw [HX.out]; exact hlt
      have hjy : j < y.length := by rw [HY.out]; exact hlt
      obtain ⟨bA, oA, rfl, lA, cA⟩ := (HA.out.next hb.out) (fun e => by rw [e] at hjx; simp at hjx)
      obtain ⟨bB, oB, rfl, lB, cB⟩ := (HB.out.next hb.out) (fun e => by rw [e] at hjy; simp at hjy)
      have gA := cA j x[j] (List.getElem?_eq_getElem hjx)
      have gB := cB j y[j] (List.getElem?_eq_getElem hjy)
      have hdx : Hid (x.drop j = x[j] :: x.drop (j + 1)) := List.drop_eq_getElem_cons hjx
      have hdy : Hid (y.drop j = y[j] :: y.drop (j + 1)) := List.drop_eq_getElem_cons hjy
      clear cA cB
      generalize x[j] = a at *
      generalize y[j] = b at *
      have HL := Lib.hid (hc.out)
      rw [hdx.out, hdy.out] at HL
      have hj0 : (0 : Int) ≤ (j : Int) := by omega
      have hjn : (j : Int) < (n : Int) := by omega
      by_cases hab : a = b
      · subst hab
        have hne : (((a : Nat) : Int) != (a : Int)) = false := by simp
        have HN := Lib.hid (show lessL x y = lessL (x.drop (j + 1)) (y.drop (j + 1)) by rw [HL.out, lessL, if_pos rfl])
        clear hdx hdy HL hc
        have HC : AllCells wr.drew [(⟨bA, oA + j, none⟩, .int .i64 (a : Int)), (⟨bB, oB + j, none⟩, .int .i64 (a : Int))] := ⟨gA, gB, trivial⟩
        clear gA gB
        go_wp2_with fail
        refine region_free _ [0, 1, 2, 3, 4, 5, 6, 7, 8] 0 (by kernel_rfl) (by kernel_rfl) (by kernel_rfl) (by kernel_rfl) (by kernel_rfl) (fun _ _ _ _ _ h => h) HC ?_
        intro hne hu
        simp only [AllCells] at hu
        simp only [pick, List.take_succ_cons, List.take_zero, List.drop_succ_cons, List.drop_zero, List.cons_append, List.nil_append]
        repeat (go_big_quiet_step (fail))
        refine wpQuiet_nil ?_
        clear hne hu
        refine ⟨by kernel_rfl, ?_⟩
        go_wp2_with fail
        go_roundw
        case rel => exact ⟨j + 1, by omega, by go_num, HN, Lib.hid (hb.out.drew)⟩
        case measure => simp [intOf]; omega
      · have hne : (((a : Nat) : Int) != (b : Int)) = true := by rw [bne_iff_ne]; omega
        have HN := Lib.hid (show lessL x y = decide (a < b) by rw [HL.out, lessL, if_neg hab])
        clear hdx hdy HL hc
        have HC : AllCells wr.drew [(⟨bA, oA + j, none⟩, .int .i64 (a : Int)), (⟨bB, oB + j, none⟩, .int .i64 (b : Int))] := ⟨gA, gB, trivial⟩
        have HC2 : AllCells wr.drew.drew [(⟨bA, oA + j, none⟩, .int .i64 (a : Int)), (⟨bB, oB + j, none⟩, .int .i64 (b : Int))] := ⟨gA, gB, trivial⟩
        clear gA gB
        go_wp2_with fail
        refine region_free _ [0, 1, 2, 3, 4, 5, 6, 7, 8] 0 (by kernel_rfl) (by kernel_rfl) (by kernel_rfl) (by kernel_rfl) (by kernel_rfl) (fun _ _ _ _ _ h => h) HC ?_
        intro hne hu
        simp only [AllCells] at hu
        simp only [pick, List.take_succ_cons, List.take_zero, List.drop_succ_cons, List.drop_zero, List.cons_append, List.nil_append]
        repeat (go_big_quiet_step (fail))
        refine wpQuiet_nil ?_
        clear hne hu
        refine ⟨by kernel_rfl, ?_⟩
        go_wp2_with fail
        refine region_free _ [0, 1, 2, 3, 4, 5, 6, 7, 8, 9] 0 (by kernel_rfl) (by kernel_rfl) (by kernel_rfl) (by kernel_rfl) (by kernel_rfl) (fun _ _ _ _ _ h => h) HC2 ?_
        intro hne hu
        simp only [AllCells] at hu
        simp only [pick, List.take_succ_cons, List.take_zero, List.drop_succ_cons, List.drop_zero, List.cons_append, List.nil_append]
        repeat (go_big_quiet_step (fail))
        refine wpQuiet_nil ?_
        clear hne hu
        refine ⟨by kernel_rfl, ?_⟩
        go_wp2_with fail
        go_ret
        exact ⟨ret_bool (by rw [HN.out]), hb.out.drew.drew⟩
    · obtain rfl : j = n := by omega
      have hjj : decide ((j : Int) < (j : Int)) = false := decide_eq_false (by omega)
      go_wp2_with fail
      go_ret
      refine ⟨ret_bool ?_, hb.out⟩
      rw [hc.out, List.drop_of_length_le (by rw [HX.out]; exact Nat.le_refl _)]
      rfl

set_option maxRecDepth 100000 in
set_option maxHeartbeats 4000000 in
theorem neg_c (m ex : Int) (h : RightN m ex) (w : World) : Calls Try.prog 34 #[.agg #[.int .i64 m, .int .i64 ex]] w fun e w' => e = .returned (.agg #[.int .i64 (-m), .int .i64 ex]) ∧ Below w.heap.size w w' := by
  have bV : Below w.heap.size w ((w.alloc (.cells #[.int .i64 m, .int .i64 ex] 40)).alloc (.cells #[.int .i64 0, .int .i64 0] 40)) := ((Below.refl _ w).alloc (Nat.le_refl _) _).alloc (by simp) _
  have HB := Lib.hid bV
  have bX := Lib.hid ((Blk.new w 40 #[.int .i64 m, .int .i64 ex]).alloc (.cells #[.int .i64 0, .int .i64 0] 40))
  have bY := Lib.hid (show Blk ((w.alloc (.cells #[.int .i64 m, .int .i64 ex] 40)).alloc (.cells #[.int .i64 0, .int .i64 0] 40)) (w.heap.size + 1) 40 #[.int .i64 0, .int .i64 0] by
    have := Blk.new (w.alloc (.cells #[.int .i64 m, .int .i64 ex] 40)) 40 #[.int .i64 0, .int .i64 0]
    rw [World.size_alloc] at this; exact this)
  have e1 : -40 ≤ ex := h.elo
  have e2 : ex ≤ 40 := by
    by_cases h0 : m = 0
    · have := h.zero h0; omega
    · have := h.top h0; omega
  have m1 := h.lo
  have m2 := h.hi
  have HR := Lib.hid (fun W => rright_c m ex (by omega) (by omega) (by omega) (by omega) W)
  have H := Lib.hid h
  have hw : IntKind.i64.wrap (-m) = -m := IntWalk.i64_in _ (by omega)
  clear bV h
  go_enter Try.func34, Try.ntmps34
  go_wp2_with fail
  generalize ((w.alloc (.cells #[.int .i64 m, .int .i64 ex] 40)).alloc (.cells #[.int .i64 0, .int .i64 0] 40)) = V at *
  refine (HR.out V).mono ?_
  rintro e w1 ⟨b, rfl, hb, b1⟩
  obtain rfl : b = true := hb.2 H.out
  have HB1 := Lib.hid (HB.out.trans (b1.mono HB.out.size))
  have bX1 := Lib.hid (bX.out.kept (b1.block _ bX.out.lt))
  have bY1 := Lib.hid (bY.out.kept (b1.block _ bY.out.lt))
  have c0 := bX1.out.cell 0
  have c1 := bX1.out.cell 1
  have y0 := bY1.out.cell 0
  have y1 := bY1.out.cell 1
  have f0 := bY1.out.frozen 0
  have f1 := bY1.out.frozen 1
  have lY := bY1.out.lt
  simp only [List.getElem?_toArray, List.getElem?_cons_zero, List.getElem?_cons_succ] at c0 c1 y0 y1
  clear hb b1 HB bX bY HR
  go_wp2_with fail
  change bodyPost _ _ _ _ _ (pt2 w1 (w.heap.size + 1) (.int .i64 (-m)) (.int .i64 ex))
  have HB2 := Lib.hid (below_pt2 HB1.out (show w.heap.size ≤ w.heap.size + 1 by omega) (.int .i64 (-m)) (.int .i64 ex))
  have bY2 := Lib.hid (blk_pt2 bY1.out (.int .i64 (-m)) (.int .i64 ex))
  have d0 := bY2.out.cell 0
  have d1 := bY2.out.cell 1
  simp only [List.getElem?_toArray, List.getElem?_cons_zero, List.getElem?_cons_succ] at d0 d1
  exact bodyPost_ret (v := .agg #[.int .i64 (-m), .int .i64 ex]) (by simp [results, Try.f34, go_sem, d0, d1]) rfl ⟨rfl, HB2.out⟩
def WideL (d : List Nat) (k : Nat) : List Nat := d ++ List.replicate k 0
theorem Try.bs0_26 (w : World) : (Instr.buildSlice 26 0 #[]).run Try.prog w = .ok (.slice (some ⟨w.heap.size, 0, none⟩) 0 0) (w.alloc (.cells #[] 3)) := by
  obtain ⟨i0, hi, hi0, hi1, hi2⟩ := info_parts Try.info3
  simp [Instr.buildSlice, run_underlying Try.underlying26, sizeOf, typeInfo, zeroValue, hi, hi0, hi1, newRow, Instr.fill]
  kernel_rfl
/-- A slice of ints that can be read, with its shape. -/
def IntSl (w : World) (v : Value) (l : List Nat) : Prop := ∃ A n c, v = .slice A n c ∧ n = l.length ∧ n ≤ c ∧ c ≤ maxLen ∧ (A = none → n = 0 ∧ c = 0) ∧ IntsR w A l
theorem IntSl.next {w w' : World} {v : Value} {l : List Nat} (h : IntSl w v l) (hb : Below w.heap.size w w') : IntSl w' v l := by
  obtain ⟨A, n, c, h1, h2, h3, h4, h5, h6⟩ := h
  exact ⟨A, n, c, h1, h2, h3, h4, h5, h6.next hb⟩
theorem intSl_of_row {w : World} {base : Nat} {v : Value} {n : Nat} {l : List Nat} (h : w.ownsRow base 3 1 v n (intsL l)) : IntSl w v l := by
  obtain ⟨A, c, rfl, hs⟩ := ownsRow_shape h
  obtain ⟨h1, h2, h3, h4⟩ := intsR_of_row h
  refine ⟨A, n, c, rfl, h1, h2, h3, fun e => ?_, h4⟩
  rcases hs with ⟨_, h5, h6⟩ | ⟨g, h5, _⟩
  · exact ⟨h5, h6⟩
  · rw [h5] at e; cases e
theorem add_at (b off j : Nat) : (⟨b, off, none⟩ : Addr).add j = ⟨b, off + j, none⟩ := by unfold Addr.add; split <;> simp_all
theorem intsR_cells {w : World} {A : Option Addr} {l : List Nat} (h : IntsR w A l) : ∀ ad, A = some ad → ∀ j u, (intsL l)[j]? = some u → w.cell? (ad.add j) = some u := fun ad hA j u hj => by
  obtain ⟨x, hx, rfl⟩ : ∃ x : Nat, l[j]? = some x ∧ u = .int .i64 (x : Int) := by
    simp only [intsL, List.getElem?_map, Option.map_eq_some_iff] at hj
    obtain ⟨x, h1, h2⟩ := hj
    exact ⟨x, h1, h2.symm⟩
  obtain ⟨b, off, hA', hlt, hc⟩ := h (fun e => by rw [e] at hx; simp at hx)
  rw [hA'] at hA
  cases hA
  rw [add_at]
  exact hc j x hx
theorem nil_own (w : World) (base : Nat) (hb : base ≤ w.heap.size) : (w.alloc (.cells #[] 3)).ownsRow base 3 1 (.slice (some ⟨w.heap.size, 0, none⟩) 0 0) 0 [] :=
  ⟨rfl, .inr ⟨w.heap.size, 0, #[], rfl, hb, heap_alloc_new w _, Nat.le_refl _, by decide, rfl, rfl⟩⟩
set_option maxRecDepth 100000 in
set_option maxHeartbeats 4000000 in
theorem wide_c (v : Value) (d : List Nat) (k : Nat) (w : World) (hv : IntSl w v d) (hd : d.length ≤ 1000) (hk : k ≤ 1000) : Calls Try.prog 50 #[v, .int .i64 (k : Int)] w (DigP w (WideL d k)) := by
  obtain ⟨i0, hi, hz0, hz1, hz2⟩ := info_parts Try.info3
  obtain ⟨A, n, c, rfl, hn, hc1, hc2, hA, hR⟩ := hv
  have HA := Lib.hid hA
  have HN := Lib.hid hn
  have hbs := Try.bs0_26 w
  have bl : Below w.heap.size w (w.alloc (.cells #[] 3)) := (Below.refl _ w).alloc (Nat.le_refl _) _
  have HBL := Lib.hid bl
  have HSrc := Lib.hid (intsR_cells (hR.next bl))
  have HNil := Lib.hid (nil_own w w.heap.size (Nat.le_refl _))
  have hn' : n ≤ 1000 := by omega
  have hl : Hid ((intsL d).length = n * 1) := Lib.hid (by rw [hn]; simp [intsL])
  have hk0 : (0 : Int) ≤ (k : Int) := by omega
  clear hA hn bl hR hc1 hc2 hd
  go_enter Try.func50, Try.ntmps50
  go_wp2_with (at_builtin; refine wpList_append_src _ rfl _ _ _ rfl w.heap.size 3 i0 _ 1 8 Try.underlying26 hi hz0 hz1 hz2 rfl (by omega) _ 0 [] rfl HNil.out A n c (intsL d) rfl HA.out hl.out HSrc.out (intsL_one d) (by simp only [maxLen]; omega) (by omega) (by simp) ?_; intro v2 w2 hr2 hg2 hat2)
  have HR2 := Lib.hid (show w2.ownsRow w.heap.size 3 1 v2 (WideL d 0).length (intsL (WideL d 0)) by
    have e : WideL d 0 = d := by simp [WideL]
    rw [e, ← HN.out]
    have h := hr2
    rw [List.nil_append, Nat.zero_add] at h
    exact h)
  have HB2 := Lib.hid (below_grew HBL.out hg2 (fun g hg => by cases hg; exact Nat.le_refl _))
  clear hr2 hg2 hat2 hbs
  go_loopw [5, 6] (fun v i wr => ∃ j : Nat, j ≤ k ∧ i = .int .i64 j ∧ Hid (Below w.heap.size w wr ∧ wr.ownsRow w.heap.size 3 1 v (WideL d j).length (intsL (WideL d j)))) (fun _ i _ => k - (intOf i).toNat)
  case atStart => exact ⟨0, Nat.zero_le _, rfl, ⟨HB2.out, HR2.out⟩⟩
  case round =>
    obtain ⟨j, hj, rfl, hw⟩ := hrel
    rename_i v5
    by_cases hlt : j < k
    · have hj0 : (0 : Int) ≤ (j : Int) := by omega
      have hjn : (j : Int) < (k : Int) := by omega
      have HBw := Lib.hid hw.out.1
      have HRw := Lib.hid hw.out.2
      obtain ⟨A5, c5, rfl, hs5⟩ := ownsRow_shape hw.out.2
      have hlen : (WideL d j).length = d.length + j := by simp [WideL]
      have hd5 : d.length ≤ 1000 := by have := HN.out; omega
      have HLn := Lib.hid hlen
      obtain ⟨N, hN⟩ : ∃ N, (WideL d j).length = N := ⟨_, rfl⟩
      rw [hN] at HRw hlen HLn
      rw [hN]
      have hbs := bs1_26 wr 0
      have bl : Below wr.heap.size wr (wr.alloc (.cells #[.int .i64 0] 3)) := (Below.refl _ wr).alloc (Nat.le_refl _) _
      have HB5 := Lib.hid (HBw.out.trans (bl.mono HBw.out.size))
      have HR5 := Lib.hid (ownsRow_kept HRw.out (w' := wr.alloc (.cells #[.int .i64 0] 3)) (fun g _ hg => bl.block g hg))
      have HSz := Lib.hid (show w.heap.size ≤ (wr.alloc (.cells #[.int .i64 0] 3)).heap.size from HB5.out.size)
      have HSrc : Hid (∀ ad, some (⟨wr.heap.size, 0, none⟩ : Addr) = some ad → ∀ j u, [Value.int .i64 0][j]? = some u → (wr.alloc (.cells #[.int .i64 0] 3)).cell? (ad.add j) = some u) := fun ad hE j u hj => by
        cases hE
        rw [add_at, (Blk.new wr 3 #[.int .i64 0]).cell]
        simpa using hj
      have hNb : N ≤ 3000 := by omega
      have HBase := Lib.hid (ownsRow_base HRw.out)
      clear hw hs5 hlen hN hd5 bl HRw
      go_wp2_with (at_builtin; refine wpList_append_src _ rfl _ _ _ rfl w.heap.size 3 i0 _ 1 8 Try.underlying26 hi hz0 hz1 hz2 rfl (by omega) _ N (intsL (WideL d j)) rfl HR5.out (some ⟨wr.heap.size, 0, none⟩) 1 1 [.int .i64 0] rfl (fun e => by cases e) rfl HSrc.out (fun u hu => by rw [List.mem_singleton.1 hu]; rfl) (by simp only [maxLen]; omega) (by omega) HSz.out ?_; intro v2 w2 hr2 hg2 hat2)
      have HR6 := Lib.hid (show w2.ownsRow w.heap.size 3 1 v2 (WideL d (j + 1)).length (intsL (WideL d (j + 1))) by
        have e : intsL (WideL d (j + 1)) = intsL (WideL d j) ++ [.int .i64 0] := by
          have : WideL d (j + 1) = WideL d j ++ [0] := by simp [WideL, List.replicate_succ']
          rw [this]; simp [intsL]
        have e2 : (WideL d (j + 1)).length = N + 1 := by have := HLn.out; simp [WideL]; omega
        rw [e, e2]
        exact hr2)
      have HB6 := Lib.hid (below_grew HB5.out hg2 (fun g hg => HBase.out g hg))
      clear hr2 hg2 hat2 hbs
      go_wp2_with fail
      go_roundw
      case rel => exact ⟨j + 1, by omega, by go_num, ⟨HB6.out, HR6.out⟩⟩
      case measure => simp [intOf]; omega
    · obtain rfl : j = k := by omega
      have hjj : decide ((j : Int) < (j : Int)) = false := decide_eq_false (by omega)
      go_wp2_with fail
      go_ret
      exact ⟨_, rfl, hw.out⟩
end Go.Proofs.Ytifdpcjfjoekmaa
