/-
  A region that draws its order, in which allocations and calls may come in whichever order. order.compare, the closure of order.Permutation: their contracts. Condition: the rows and keys can be read.
-/
import Derived.Test.YtifdpcjfjoekmaaA5
namespace Go.Proofs.Ytifdpcjfjoekmaa
open Go.RowKit

/-- Whatever order some operations come in: a relation that each of them takes on. -/
theorem anyN_dance {P : Program} {Q : Exit → Act → World → Prop} {S : World → Prop} {l : List Oper} {g : Nat} (R : Nat → Array Bool → Act → World → Prop)
    (hready : ∀ n listed a w, R (n + 1) listed a w → Region.ready .any l.toArray listed ≠ [])
    (hstep : ∀ n listed a w i, R (n + 1) listed a w → i ∈ Region.ready .any l.toArray listed →
      wpList P l.toArray (Exit.then (fun a' w' => S w' ∧ R n (listed.setIfInBounds i true) a' w') Q) ((l.drop i).take 1) a w)
    (hdone : ∀ listed a w, R 0 listed a w → wpAnyN P .any l.toArray Q S (fun _ => true) g listed a w) :
    ∀ n listed a w, R n listed a w → wpAnyN P .any l.toArray Q S (fun _ => true) (g + n) listed a w
  | 0, listed, a, w, h => hdone listed a w h
  | n + 1, listed, a, w, h => by
    refine ⟨fun e => absurd e (hready n listed a w h), fun i hi => ?_⟩
    obtain ⟨o, ho, e⟩ := drop_take_one (l := l) (listed := listed) (i := i) hi
    have h1 := hstep n listed a w i h hi
    rw [e] at h1
    refine wpOp_mono (fun a' w' h2 => ⟨fun _ => h2.1, anyN_dance R hready hstep hdone n _ a' w' h2.2⟩) (wpOp_of_list ho h1)

theorem ready_spec {ops : Array Oper} {listed : Array Bool} {i : Nat} (h : i ∈ Region.ready .any ops listed) : i < ops.size ∧ listed.getD i true = false ∧ ∀ o, ops[i]? = some o → ∀ e ∈ o.after, Region.binds .any e = true → listed.getD e.on false = true := by
  unfold Region.ready at h
  simp only [List.mem_filter, List.mem_range, Bool.and_eq_true, Bool.not_eq_true'] at h
  obtain ⟨h1, h2, h3⟩ := h
  refine ⟨h1, h2, fun o ho e he hb => ?_⟩
  rw [ho] at h3
  simp only [Option.map_some, Option.getD_some, Array.all_eq_true] at h3
  obtain ⟨k, hk, rfl⟩ := Array.mem_iff_getElem.1 he
  have := h3 k hk
  rw [hb] at this
  simpa using this
/-- Two calls and two new boxes, in whichever order. -/
structure Duo (V : World) (ty : TypeId) (z : Array Value) (ca cb : Value) (b3 b7 b8 b9 : Bool) (v3 v7 v8 v9 : Value) (W : World) : Prop where
  below : Below V.heap.size V W
  r3 : b3 = true → v3 = ca
  r7 : b7 = true → v7 = cb
  r8 : b8 = true → ∃ X, v8 = .pointer (some ⟨X, 0, none⟩) ∧ V.heap.size ≤ X ∧ Blk W X ty z
  r9 : b9 = true → ∃ X, v9 = .pointer (some ⟨X, 0, none⟩) ∧ V.heap.size ≤ X ∧ Blk W X ty z
  ne : b8 = true → b9 = true → v8 ≠ v9
section
variable {V W W' : World} {ty : TypeId} {z : Array Value} {ca cb v3 v7 v8 v9 : Value} {b3 b7 b8 b9 : Bool}
theorem Duo.next (h : Duo V ty z ca cb b3 b7 b8 b9 v3 v7 v8 v9 W) (k : Below W.heap.size W W') : Duo V ty z ca cb b3 b7 b8 b9 v3 v7 v8 v9 W' :=
  ⟨h.below.trans (k.mono h.below.size), h.r3, h.r7, fun e => by obtain ⟨X, h1, h2, h3⟩ := h.r8 e; exact ⟨X, h1, h2, h3.kept (k.block _ h3.lt)⟩, fun e => by obtain ⟨X, h1, h2, h3⟩ := h.r9 e; exact ⟨X, h1, h2, h3.kept (k.block _ h3.lt)⟩, h.ne⟩
theorem Duo.call3 (h : Duo V ty z ca cb false b7 b8 b9 v3 v7 v8 v9 W) : Duo V ty z ca cb true b7 b8 b9 ca v7 v8 v9 W := ⟨h.below, fun _ => rfl, h.r7, h.r8, h.r9, h.ne⟩
theorem Duo.call7 (h : Duo V ty z ca cb b3 false b8 b9 v3 v7 v8 v9 W) : Duo V ty z ca cb b3 true b8 b9 v3 cb v8 v9 W := ⟨h.below, h.r3, fun _ => rfl, h.r8, h.r9, h.ne⟩
theorem Duo.new8 (h : Duo V ty z ca cb b3 b7 false b9 v3 v7 v8 v9 W) : Duo V ty z ca cb b3 b7 true b9 v3 v7 (.pointer (some ⟨W.heap.size, 0, none⟩)) v9 (W.alloc (.cells z ty)) := by
  have k := h.next ((Below.refl _ W).alloc (Nat.le_refl _) (.cells z ty))
  refine ⟨k.below, k.r3, k.r7, fun _ => ⟨_, rfl, h.below.size, Blk.new W ty z⟩, k.r9, fun _ e9 => ?_⟩
  obtain ⟨X, h1, _, h3⟩ := h.r9 e9
  rw [h1]
  intro e
  cases e
  exact absurd h3.lt (Nat.lt_irrefl _)
theorem Duo.new9 (h : Duo V ty z ca cb b3 b7 b8 false v3 v7 v8 v9 W) : Duo V ty z ca cb b3 b7 b8 true v3 v7 v8 (.pointer (some ⟨W.heap.size, 0, none⟩)) (W.alloc (.cells z ty)) := by
  have k := h.next ((Below.refl _ W).alloc (Nat.le_refl _) (.cells z ty))
  refine ⟨k.below, k.r3, k.r7, k.r8, fun _ => ⟨_, rfl, h.below.size, Blk.new W ty z⟩, fun e8 _ => ?_⟩
  obtain ⟨X, h1, _, h3⟩ := h.r8 e8
  rw [h1]
  intro e
  cases e
  exact absurd h3.lt (Nat.lt_irrefl _)
end
def put6 (W : World) (X : Nat) (a b c d e f : Value) : World := (((((W.setCell ⟨X, 0, none⟩ a).setCell ⟨X, 1, none⟩ b).setCell ⟨X, 2, none⟩ c).setCell ⟨X, 3, none⟩ d).setCell ⟨X, 4, none⟩ e).setCell ⟨X, 5, none⟩ f
theorem blk_put6 {W : World} {X : Nat} {ty : TypeId} {u0 u1 u2 u3 u4 u5 : Value} (h : Blk W X ty #[u0, u1, u2, u3, u4, u5]) (a b c d e f : Value) : Blk (put6 W X a b c d e f) X ty #[a, b, c, d, e, f] := by
  have := (((((h.store 0 a).store 1 b).store 2 c).store 3 d).store 4 e).store 5 f
  simp only [List.setIfInBounds_toArray, List.set_cons_succ, List.set_cons_zero] at this
  exact this
theorem blk_put6far {W : World} {X Y : Nat} {ty : TypeId} {cs : Array Value} (h : Blk W Y ty cs) (hne : Y ≠ X) (a b c d e f : Value) : Blk (put6 W X a b c d e f) Y ty cs :=
  (((((h.far hne a).far hne b).far hne c).far hne d).far hne e).far hne f
theorem below_put6 {n : Nat} {w W : World} {X : Nat} (h : Below n w W) (hX : n ≤ X) (a b c d e f : Value) : Below n w (put6 W X a b c d e f) :=
  (((((h.setCell hX a).setCell hX b).setCell hX c).setCell hX d).setCell hX e).setCell hX f

theorem four_true {a b c d : Bool} (h : 0 = (if a then 0 else 1) + (if b then 0 else 1) + (if c then 0 else 1) + (if d then 0 else 1)) : a = true ∧ b = true ∧ c = true ∧ d = true := by
  revert h
  cases a <;> cases b <;> cases c <;> cases d <;> simp
theorem not_empty {l : List Nat} (h : l.isEmpty = false) (e : l = []) : False := by rw [e] at h; cases h
theorem of_act {R : Act → World → Prop} {a0 : Act} {w : World} (h : ∀ a, a = a0 → R a w) : R a0 w := h a0 rfl
structure KeyD where
  col : Int
  down : Bool
instance : Inhabited KeyD := ⟨⟨0, false⟩⟩
def keyCells (k : KeyD) : List Value := [.int .i64 k.col, .bool k.down]
def cmp1 (x y : List Val) (k : KeyD) : Int :=
  if k.down = true ∧ (atV x k.col).kind ≠ 0 ∧ (atV y k.col).kind ≠ 0 then -valOrd (atV x k.col) (atV y k.col) else valOrd (atV x k.col) (atV y k.col)
def cmpK (x y : List Val) : List KeyD → Int
  | [] => 0
  | k :: ks => if cmp1 x y k ≠ 0 then cmp1 x y k else cmpK x y ks
/-- A row of values that may be. -/
def RowOk (x : List Val) : Prop := ∀ v ∈ x, Okay v ∧ 0 ≤ v.kind ∧ v.kind ≤ 4
theorem zero_ok : Okay zeroV ∧ 0 ≤ zeroV.kind ∧ zeroV.kind ≤ 4 := ⟨⟨fun h => absurd h (by decide), by decide⟩, by decide, by decide⟩
theorem atV_ok {x : List Val} (h : RowOk x) (c : Int) : Okay (atV x c) ∧ 0 ≤ (atV x c).kind ∧ (atV x c).kind ≤ 4 := by
  unfold atV
  split
  · exact zero_ok
  · rcases Nat.lt_or_ge c.toNat x.length with hc | hc
    · have e : x.getD c.toNat zeroV = x[c.toNat] := by simp [List.getD, hc]
      rw [e]; exact h _ (List.getElem_mem hc)
    · have e : x.getD c.toNat zeroV = zeroV := by simp [List.getD, hc]
      rw [e]; exact zero_ok
theorem compareBytes_range : ∀ (a b : List UInt8), -1 ≤ Lib.compareBytes a b ∧ Lib.compareBytes a b ≤ 1
  | [], [] => by decide
  | [], _ :: _ => by unfold Lib.compareBytes; decide
  | _ :: _, [] => by unfold Lib.compareBytes; decide
  | a :: l, b :: m => by
    unfold Lib.compareBytes
    have := compareBytes_range l m
    split
    · decide
    · split
      · decide
      · exact this
theorem truthR_range (a b : Bool) : -1 ≤ truthR a b ∧ truthR a b ≤ 1 := by cases a <;> cases b <;> decide
theorem cmp3_range' (a b : Int) : -1 ≤ cmp3 a b ∧ cmp3 a b ≤ 1 := by have := cmp3_range a b; omega
theorem valOrd_range (a b : Val) : -1 ≤ valOrd a b ∧ valOrd a b ≤ 1 := by
  unfold valOrd valCmp byKind
  split
  · decide
  split
  · decide
  split
  · decide
  split
  · exact cmp3_range' _ _
  split
  · exact cmp3_range' _ _
  split
  · exact compareBytes_range _ _
  split
  · exact truthR_range _ _
  split
  · exact cmp3_range' _ _
  · decide

set_option maxRecDepth 100000 in
set_option maxHeartbeats 4000000 in
theorem compare_c (A B K : Option Addr) (n ca m cb q ck : Nat) (x y : List Val) (ks : List KeyD) (w : World) (hA : ManyR Val.cs 6 w A x) (hB : ManyR Val.cs 6 w B y) (hK : ManyR keyCells 2 w K ks)
    (hn : x.length = n) (hm : y.length = m) (hq : ks.length = q) (hx : RowOk x) (hy : RowOk y) (h1 : n ≤ 1000000) (h2 : m ≤ 1000000) (h3 : q ≤ 1000000) :
    Calls Try.prog 18 #[.slice A n ca, .slice B m cb, .slice K q ck] w fun e w' => e = .returned (.int .i64 (cmpK x y ks)) ∧ Below w.heap.size w w' := by
  have HA := Lib.hid hA
  have HB := Lib.hid hB
  have HK := Lib.hid hK
  have HN := Lib.hid hn
  have HM := Lib.hid hm
  have HQ := Lib.hid hq
  have HX := Lib.hid hx
  have HY := Lib.hid hy
  clear hA hB hK hn hm hq hx hy
  go_enter Try.func18, Try.ntmps18
  go_wp2_with fail
  go_loopw [14] (fun i wr => ∃ j : Nat, j ≤ q ∧ i = .int .i64 j ∧ Hid (cmpK x y ks = cmpK x y (ks.drop j)) ∧ Hid (Below w.heap.size w wr)) (fun i _ => q - (intOf i).toNat)
  case atStart => exact ⟨0, Nat.zero_le _, rfl, rfl, Below.refl _ _⟩
  case round =>
    obtain ⟨j, hj, rfl, hc, hb⟩ := hrel
    by_cases hlt : j < q
    · have hjl : j < ks.length := by rw [HQ.out]; exact hlt
      obtain ⟨bK, oK, rfl, lK, hcK⟩ := (HK.out.next hb.out) (fun e => by rw [e] at hjl; simp at hjl)
      have g := hcK j hjl
      have hdr : Hid (ks.drop j = ks[j] :: ks.drop (j + 1)) := List.drop_eq_getElem_cons hjl
      clear hcK
      generalize ks[j] = kd at *
      obtain ⟨kc, kd⟩ := kd
      have g0 := g 0 _ rfl
      have g1 := g 1 _ rfl
      rw [Nat.add_zero] at g0
      clear g
      have hj0 : (0 : Int) ≤ (j : Int) := by omega
      have hjn : (j : Int) < (q : Int) := by omega
      go_wp2_with fail
      have bX := Lib.hid (Blk.new wr 37 #[.int .i64 kc, .bool kd])
      have hV : Below wr.heap.size wr (wr.alloc (.cells #[.int .i64 kc, .bool kd] 37)) := (Below.refl _ _).alloc (Nat.le_refl _) _
      have hbV := Lib.hid (Below.comp hb.out hV)
      have HAt := Lib.hid (fun (W : World) (hW : Below w.heap.size w W) => at_c A n ca x kc W (HA.out.next hW) HN.out h1)
      have HBt := Lib.hid (fun (W : World) (hW : Below w.heap.size w W) => at_c B m cb y kc W (HB.out.next hW) HM.out h2)
      have BX0 : Hid (Blk (wr.alloc (.cells #[.int .i64 kc, .bool kd] 37)) wr.heap.size 37 #[.int .i64 kc, .bool kd]) := bX.out
      clear hV g0 g1 lK
      generalize wr.alloc (.cells #[.int .i64 kc, .bool kd] 37) = V at *
      generalize wr.heap.size = N at *
      have HC : AllCells V.drew [(⟨N, 0, none⟩, .int .i64 kc)] := ⟨BX0.out.cell 0, trivial⟩
      refine region_free _ [0, 1, 2, 4, 5, 6] 6 (by kernel_rfl) (by kernel_rfl) (by kernel_rfl) (by kernel_rfl) (by kernel_rfl) (fun _ _ _ _ _ h => h) HC ?_
      intro hne hu
      simp only [AllCells] at hu
      simp only [pick, List.take_succ_cons, List.take_zero, List.drop_succ_cons, List.drop_zero, List.cons_append, List.nil_append]
      repeat (go_big_quiet_step (fail))
      refine wpQuiet_nil ?_
      clear hne hu

      refine of_act (fun a ha => ?_)
      have D0 := Lib.hid (show Duo V.drew 42 #[.int .i64 0, .int .i64 0, .int .i64 0, .string ⟨#[]⟩, .bool false, .int .i64 0] (.agg (atV x kc).cs.toArray) (.agg (atV y kc).cs.toArray) false false false false u21 u25 u9 u10 V.drew from ⟨Below.refl _ _, (fun e => nomatch e), (fun e => nomatch e), (fun e => nomatch e), (fun e => nomatch e), (fun e => nomatch e)⟩)
      refine anyN_dance (g := 2) (fun n listed a' W => ∃ b3 b7 b8 b9 v3 v7 v8 v9, listed = #[true, true, true, b3, true, true, true, b7, b8, b9, false, false] ∧ n = (if b3 then 0 else 1) + (if b7 then 0 else 1) + (if b8 then 0 else 1) + (if b9 then 0 else 1) ∧ (b7 = true → b3 = true) ∧ a' = { tmps := (((a.tmps.setIfInBounds 21 v3).setIfInBounds 25 v7).setIfInBounds 9 v8).setIfInBounds 10 v9, defers := [] } ∧ Hid (Duo V.drew 42 #[.int .i64 0, .int .i64 0, .int .i64 0, .string ⟨#[]⟩, .bool false, .int .i64 0] (.agg (atV x kc).cs.toArray) (.agg (atV y kc).cs.toArray) b3 b7 b8 b9 v3 v7 v8 v9 W)) ?ready ?step ?done 4 _ a V.drew ?start
      case start =>
        subst ha
        exact ⟨false, false, false, false, u21, u25, u9, u10, by kernel_rfl, rfl, (fun e => nomatch e), by simp only [List.setIfInBounds_toArray, List.set_cons_succ, List.set_cons_zero], D0⟩
      case ready =>
        rintro n listed a' W ⟨b3, b7, b8, b9, v3, v7, v8, v9, rfl, hn, h73, _, _⟩ hh

        cases b3 <;> cases b7 <;> cases b8 <;> cases b9 <;> first
          | (have := h73 rfl; cases this; done)
          | (simp at hn; done)
          | (refine not_empty ?_ hh; kernel_rfl)
      case step =>
        rintro n listed a' W i ⟨b3, b7, b8, b9, v3, v7, v8, v9, rfl, hn, h73, rfl, hD⟩ hi
        obtain ⟨hi1, hi2, hi3⟩ := ready_spec hi
        have h12 : i < 12 := hi1
        clear hi hi1
        subst ha
        simp only [List.setIfInBounds_toArray, List.set_cons_succ, List.set_cons_zero]
        have hcases : i = 0 ∨ i = 1 ∨ i = 2 ∨ i = 3 ∨ i = 4 ∨ i = 5 ∨ i = 6 ∨ i = 7 ∨ i = 8 ∨ i = 9 ∨ i = 10 ∨ i = 11 := by omega
        clear h12
        rcases hcases with rfl | rfl | rfl | rfl | rfl | rfl | rfl | rfl | rfl | rfl | rfl | rfl
        · exact absurd (show true = false from hi2) (by decide)
        · exact absurd (show true = false from hi2) (by decide)
        · exact absurd (show true = false from hi2) (by decide)
        · have e3 : b3 = false := hi2
          subst e3
          have hbW := (hbV.out.drew).trans (hD.out.below.mono hbV.out.size)
          have HCW := AllCells.below HC hD.out.below
          simp only [List.take_succ_cons, List.take_zero, List.drop_succ_cons, List.drop_zero]
          go_wp2_with fail
          refine (HAt.out W hbW).mono ?_
          rintro e W1 ⟨rfl, b1⟩
          go_wp2_with fail
          refine ⟨AllCells.below HCW b1, true, b7, b8, b9, _, v7, v8, v9, ?_, ?_, fun _ => rfl, ?_, Lib.hid (hD.out.next b1).call3⟩
          · simp
          · simp at hn ⊢; omega
          · simp only [List.setIfInBounds_toArray, List.set_cons_succ, List.set_cons_zero]
        · exact absurd (show true = false from hi2) (by decide)
        · exact absurd (show true = false from hi2) (by decide)
        · exact absurd (show true = false from hi2) (by decide)
        · have e7 : b7 = false := hi2
          have e3 : b3 = true := hi3 _ rfl ⟨3, .chain⟩ (by simp) rfl
          subst e7
          subst e3
          have hbW := (hbV.out.drew).trans (hD.out.below.mono hbV.out.size)
          have HCW := AllCells.below HC hD.out.below
          simp only [List.take_succ_cons, List.take_zero, List.drop_succ_cons, List.drop_zero]
          go_wp2_with fail
          refine (HBt.out W hbW).mono ?_
          rintro e W1 ⟨rfl, b1⟩
          go_wp2_with fail
          refine ⟨AllCells.below HCW b1, true, true, b8, b9, v3, _, v8, v9, ?_, ?_, fun _ => rfl, ?_, Lib.hid (hD.out.next b1).call7⟩
          · simp
          · simp at hn ⊢; omega
          · simp only [List.setIfInBounds_toArray, List.set_cons_succ, List.set_cons_zero]
        · have e8 : b8 = false := hi2
          subst e8
          have HCW := AllCells.below HC hD.out.below
          simp only [List.take_succ_cons, List.take_zero, List.drop_succ_cons, List.drop_zero]
          go_wp2_with fail
          refine ⟨AllCells.below HCW ((Below.refl _ W).alloc (Nat.le_refl _) _), b3, b7, true, b9, v3, v7, _, v9, ?_, ?_, h73, ?_, Lib.hid hD.out.new8⟩
          · simp
          · simp at hn ⊢; omega
          · simp only [List.setIfInBounds_toArray, List.set_cons_succ, List.set_cons_zero]
        · have e9 : b9 = false := hi2
          subst e9
          have HCW := AllCells.below HC hD.out.below
          simp only [List.take_succ_cons, List.take_zero, List.drop_succ_cons, List.drop_zero]
          go_wp2_with fail
          refine ⟨AllCells.below HCW ((Below.refl _ W).alloc (Nat.le_refl _) _), b3, b7, b8, true, v3, v7, v8, _, ?_, ?_, h73, ?_, Lib.hid hD.out.new9⟩
          · simp
          · simp at hn ⊢; omega
          · simp only [List.setIfInBounds_toArray, List.set_cons_succ, List.set_cons_zero]
        · have e8 : b8 = true := hi3 _ rfl ⟨8, .data⟩ (by simp) rfl
          have e3 : b3 = true := hi3 _ rfl ⟨3, .data⟩ (by simp) rfl
          have e7 : b7 = true := hi3 _ rfl ⟨7, .chain⟩ (by simp) rfl
          have e9 : b9 = true := hi3 _ rfl ⟨9, .phase⟩ (by simp) rfl
          subst e8; subst e3; subst e7; subst e9
          exact absurd hn (by simp)
        · exact absurd (show false = true from hi3 _ rfl ⟨10, .chain⟩ (by simp) rfl) (by decide)
      case done =>
        rintro listed a' W ⟨b3, b7, b8, b9, v3, v7, v8, v9, rfl, hn, h73, rfl, hD⟩
        obtain ⟨e3, e7, e8, e9⟩ := four_true hn
        clear hn h73
        subst e3; subst e7; subst e8; subst e9
        obtain rfl := hD.out.r3 rfl
        obtain rfl := hD.out.r7 rfl
        obtain ⟨X, rfl, hX, bX8⟩ := hD.out.r8 rfl
        obtain ⟨Y, rfl, hY, bY9⟩ := hD.out.r9 rfl
        have hXY : X ≠ Y := fun e => hD.out.ne rfl rfl (by rw [e])
        subst ha
        simp only [List.setIfInBounds_toArray, List.set_cons_succ, List.set_cons_zero]
        have hbW := (hbV.out.drew).trans (hD.out.below.mono hbV.out.size)
        have BXW := Lib.hid (BX0.out.kept (hD.out.below.block _ BX0.out.lt))
        have hNX : N ≠ X := fun e => by have := BX0.out.lt; rw [e] at this; exact absurd this (by have : V.drew.heap.size ≤ X := hX; exact Nat.not_lt.2 this)
        have hNY : N ≠ Y := fun e => by have := BX0.out.lt; rw [e] at this; exact absurd this (by have : V.drew.heap.size ≤ Y := hY; exact Nat.not_lt.2 this)
        have hXw : w.heap.size ≤ X := Nat.le_trans hbV.out.size hX
        have hYw : w.heap.size ≤ Y := Nat.le_trans hbV.out.size hY
        have VX := Lib.hid (atV_ok HX.out kc)
        have VY := Lib.hid (atV_ok HY.out kc)
        have HHH := Lib.hid (And.intro hNX (And.intro hNY (And.intro hXY (And.intro hXw hYw))))
        have B8 := Lib.hid bX8
        have B9 := Lib.hid bY9
        have HBW := Lib.hid hbW
        clear hD hX hY hNX hNY hXw hYw bX8 bY9 hbW hXY
        obtain ⟨va, hva⟩ : ∃ v, atV x kc = v := ⟨_, rfl⟩
        obtain ⟨vb, hvb⟩ : ∃ v, atV y kc = v := ⟨_, rfl⟩
        have HVA := Lib.hid hva
        have HVB := Lib.hid hvb
        rw [hva] at VX ⊢
        rw [hvb] at VY ⊢
        clear hva hvb HC
        unfold Val.cs
        have f0 := B8.out.frozen 0
        have c0 : W.cell? ⟨X, 0, none⟩ = some (.int .i64 0) := B8.out.cell 0
        have f1 := B8.out.frozen 1
        have c1 : W.cell? ⟨X, 1, none⟩ = some (.int .i64 0) := B8.out.cell 1
        have f2 := B8.out.frozen 2
        have c2 : W.cell? ⟨X, 2, none⟩ = some (.int .i64 0) := B8.out.cell 2
        have f3 := B8.out.frozen 3
        have c3 : W.cell? ⟨X, 3, none⟩ = some (.string ⟨#[]⟩) := B8.out.cell 3
        have f4 := B8.out.frozen 4
        have c4 : W.cell? ⟨X, 4, none⟩ = some (.bool false) := B8.out.cell 4
        have f5 := B8.out.frozen 5
        have c5 : W.cell? ⟨X, 5, none⟩ = some (.int .i64 0) := B8.out.cell 5
        have lB := B8.out.lt
        refine anyN_oneL 10 (by kernel_rfl) ?_
        simp only [List.take_succ_cons, List.take_zero, List.drop_succ_cons, List.drop_zero]
        go_wp2_with fail
        clear f0 f1 f2 f3 f4 f5 c0 c1 c2 c3 c4 c5 lB
        change (_ → AllCells (put6 W X (.int .i64 va.kind) (.int .i64 va.mant) (.int .i64 va.exp) (.string va.text) (.bool va.truth) (.int .i64 va.fault)) [(⟨N, 0, none⟩, .int .i64 kc)]) ∧ wpAnyN _ _ _ _ _ _ _ _ _ (put6 W X (.int .i64 va.kind) (.int .i64 va.mant) (.int .i64 va.exp) (.string va.text) (.bool va.truth) (.int .i64 va.fault))
        have B8' := Lib.hid (blk_put6 B8.out (.int .i64 va.kind) (.int .i64 va.mant) (.int .i64 va.exp) (.string va.text) (.bool va.truth) (.int .i64 va.fault))
        have B9' := Lib.hid (blk_put6far B9.out (fun e => HHH.out.2.2.1 e.symm) (.int .i64 va.kind) (.int .i64 va.mant) (.int .i64 va.exp) (.string va.text) (.bool va.truth) (.int .i64 va.fault))
        have BX' := Lib.hid (blk_put6far BXW.out HHH.out.1 (.int .i64 va.kind) (.int .i64 va.mant) (.int .i64 va.exp) (.string va.text) (.bool va.truth) (.int .i64 va.fault))
        have HB' := Lib.hid (below_put6 HBW.out HHH.out.2.2.2.1 (.int .i64 va.kind) (.int .i64 va.mant) (.int .i64 va.exp) (.string va.text) (.bool va.truth) (.int .i64 va.fault))
        generalize put6 W X (.int .i64 va.kind) (.int .i64 va.mant) (.int .i64 va.exp) (.string va.text) (.bool va.truth) (.int .i64 va.fault) = W2 at *
        refine And.intro (fun _ => ⟨BX'.out.cell 0, trivial⟩) ?_
        have f0 := B9'.out.frozen 0
        have c0 : W2.cell? ⟨Y, 0, none⟩ = some (.int .i64 0) := B9'.out.cell 0
        have f1 := B9'.out.frozen 1
        have c1 : W2.cell? ⟨Y, 1, none⟩ = some (.int .i64 0) := B9'.out.cell 1
        have f2 := B9'.out.frozen 2
        have c2 : W2.cell? ⟨Y, 2, none⟩ = some (.int .i64 0) := B9'.out.cell 2
        have f3 := B9'.out.frozen 3
        have c3 : W2.cell? ⟨Y, 3, none⟩ = some (.string ⟨#[]⟩) := B9'.out.cell 3
        have f4 := B9'.out.frozen 4
        have c4 : W2.cell? ⟨Y, 4, none⟩ = some (.bool false) := B9'.out.cell 4
        have f5 := B9'.out.frozen 5
        have c5 : W2.cell? ⟨Y, 5, none⟩ = some (.int .i64 0) := B9'.out.cell 5
        have lB := B9'.out.lt
        refine anyN_oneL 11 (by kernel_rfl) ?_
        simp only [List.take_succ_cons, List.take_zero, List.drop_succ_cons, List.drop_zero]
        go_wp2_with fail
        clear f0 f1 f2 f3 f4 f5 c0 c1 c2 c3 c4 c5 lB
        change (_ → AllCells (put6 W2 Y (.int .i64 vb.kind) (.int .i64 vb.mant) (.int .i64 vb.exp) (.string vb.text) (.bool vb.truth) (.int .i64 vb.fault)) [(⟨N, 0, none⟩, .int .i64 kc)]) ∧ wpAnyN _ _ _ _ _ _ _ _ _ (put6 W2 Y (.int .i64 vb.kind) (.int .i64 vb.mant) (.int .i64 vb.exp) (.string vb.text) (.bool vb.truth) (.int .i64 vb.fault))
        have B9'' := Lib.hid (blk_put6 B9'.out (.int .i64 vb.kind) (.int .i64 vb.mant) (.int .i64 vb.exp) (.string vb.text) (.bool vb.truth) (.int .i64 vb.fault))
        have B8'' := Lib.hid (blk_put6far B8'.out (fun e => HHH.out.2.2.1 e) (.int .i64 vb.kind) (.int .i64 vb.mant) (.int .i64 vb.exp) (.string vb.text) (.bool vb.truth) (.int .i64 vb.fault))
        have BX'' := Lib.hid (blk_put6far BX'.out HHH.out.2.1 (.int .i64 vb.kind) (.int .i64 vb.mant) (.int .i64 vb.exp) (.string vb.text) (.bool vb.truth) (.int .i64 vb.fault))
        have HB'' := Lib.hid (below_put6 HB'.out HHH.out.2.2.2.2 (.int .i64 vb.kind) (.int .i64 vb.mant) (.int .i64 vb.exp) (.string vb.text) (.bool vb.truth) (.int .i64 vb.fault))
        generalize put6 W2 Y (.int .i64 vb.kind) (.int .i64 vb.mant) (.int .i64 vb.exp) (.string vb.text) (.bool vb.truth) (.int .i64 vb.fault) = W3 at *
        refine And.intro (fun _ => ⟨BX''.out.cell 0, trivial⟩) ?_
        refine ⟨by kernel_rfl, ?_⟩
        clear B8 B9 BXW HBW B8' B9' BX' HB'
        have HO := Lib.hid (vorder_c va vb VX.out.1 VY.out.1 VX.out.2)
        unfold Val.cs at HO
        have p0 : W3.cell? ⟨X, 0, none⟩ = some (.int .i64 va.kind) := B8''.out.cell 0
        have p1 : W3.cell? ⟨X, 1, none⟩ = some (.int .i64 va.mant) := B8''.out.cell 1
        have p2 : W3.cell? ⟨X, 2, none⟩ = some (.int .i64 va.exp) := B8''.out.cell 2
        have p3 : W3.cell? ⟨X, 3, none⟩ = some (.string va.text) := B8''.out.cell 3
        have p4 : W3.cell? ⟨X, 4, none⟩ = some (.bool va.truth) := B8''.out.cell 4
        have p5 : W3.cell? ⟨X, 5, none⟩ = some (.int .i64 va.fault) := B8''.out.cell 5
        have q0 : W3.cell? ⟨Y, 0, none⟩ = some (.int .i64 vb.kind) := B9''.out.cell 0
        have q1 : W3.cell? ⟨Y, 1, none⟩ = some (.int .i64 vb.mant) := B9''.out.cell 1
        have q2 : W3.cell? ⟨Y, 2, none⟩ = some (.int .i64 vb.exp) := B9''.out.cell 2
        have q3 : W3.cell? ⟨Y, 3, none⟩ = some (.string vb.text) := B9''.out.cell 3
        have q4 : W3.cell? ⟨Y, 4, none⟩ = some (.bool vb.truth) := B9''.out.cell 4
        have q5 : W3.cell? ⟨Y, 5, none⟩ = some (.int .i64 vb.fault) := B9''.out.cell 5
        have lX := B8''.out.lt
        have lY := B9''.out.lt
        go_wp2_with fail
        refine (HO.out _).mono ?_
        rintro e W4 ⟨rfl, b4⟩
        have B8 := Lib.hid (B8''.out.kept (b4.block _ B8''.out.lt))
        have B9 := Lib.hid (B9''.out.kept (b4.block _ B9''.out.lt))
        have BX := Lib.hid (BX''.out.kept (b4.block _ BX''.out.lt))
        have HBF := Lib.hid (HB''.out.trans (b4.mono HB''.out.size))
        clear b4 p0 p1 p2 p3 p4 p5 q0 q1 q2 q3 q4 q5 lX lY B8'' B9'' BX'' HB'' HO
        have rg := valOrd_range va vb
        have H1 := Lib.hid (show cmp1 x y ⟨kc, kd⟩ = if kd = true ∧ va.kind ≠ 0 ∧ vb.kind ≠ 0 then -valOrd va vb else valOrd va vb by unfold cmp1; rw [HVA.out, HVB.out])
        have HS := Lib.hid (show cmpK x y ks = if cmp1 x y ⟨kc, kd⟩ ≠ 0 then cmp1 x y ⟨kc, kd⟩ else cmpK x y (ks.drop (j + 1)) by rw [hc.out, hdr.out]; rfl)
        generalize valOrd va vb = cv at *
        have n1 : W4.cell? ⟨N, 1, none⟩ = some (.bool kd) := BX.out.cell 1
        have p0 : W4.cell? ⟨X, 0, none⟩ = some (.int .i64 va.kind) := B8.out.cell 0
        have q0 : W4.cell? ⟨Y, 0, none⟩ = some (.int .i64 vb.kind) := B9.out.cell 0
        clear hc hdr VX VY
        cases kd
        · have HF := Lib.hid (show cmp1 x y ⟨kc, false⟩ = cv by rw [H1.out, if_neg (by simp)])
          by_cases hz : cv = 0
          · subst hz
            have HZ := Lib.hid (show cmpK x y ks = cmpK x y (ks.drop (j + 1)) by rw [HS.out, if_neg (by rw [HF.out]; simp)])
            clear HS H1 HF
            go_wp2_with fail
            go_roundw
            case rel => exact ⟨j + 1, by omega, by go_num, HZ.out, HBF.out⟩
            case measure => simp [intOf]; omega
          · have hzb : (cv != 0) = true := by rw [bne_iff_ne]; omega
            have HZ := Lib.hid (show cmpK x y ks = cv by rw [HS.out, if_pos (by rw [HF.out]; omega), HF.out])
            clear HS H1 HF hz
            go_wp2_with fail
            go_ret
            exact ⟨ret_i64 HZ.out.symm, HBF.out⟩
        · by_cases k1 : va.kind = 0
          · have k1b : (va.kind != 0) = false := by simpa using k1
            have HF := Lib.hid (show cmp1 x y ⟨kc, true⟩ = cv by rw [H1.out, if_neg (by simp [k1])])
            clear k1
            by_cases hz : cv = 0
            · subst hz
              have HZ := Lib.hid (show cmpK x y ks = cmpK x y (ks.drop (j + 1)) by rw [HS.out, if_neg (by rw [HF.out]; simp)])
              clear HS H1 HF
              go_wp2_with fail
              go_roundw
              case rel => exact ⟨j + 1, by omega, by go_num, HZ.out, HBF.out⟩
              case measure => simp [intOf]; omega
            · have hzb : (cv != 0) = true := by rw [bne_iff_ne]; omega
              have HZ := Lib.hid (show cmpK x y ks = cv by rw [HS.out, if_pos (by rw [HF.out]; omega), HF.out])
              clear HS H1 HF hz
              go_wp2_with fail
              go_ret
              exact ⟨ret_i64 HZ.out.symm, HBF.out⟩
          · have k1b : (va.kind != 0) = true := by simpa using k1
            by_cases k2 : vb.kind = 0
            · have k2b : (vb.kind != 0) = false := by simpa using k2
              have HF := Lib.hid (show cmp1 x y ⟨kc, true⟩ = cv by rw [H1.out, if_neg (by simp [k2])])
              clear k1 k2
              by_cases hz : cv = 0
              · subst hz
                have HZ := Lib.hid (show cmpK x y ks = cmpK x y (ks.drop (j + 1)) by rw [HS.out, if_neg (by rw [HF.out]; simp)])
                clear HS H1 HF
                go_wp2_with fail
                go_roundw
                case rel => exact ⟨j + 1, by omega, by go_num, HZ.out, HBF.out⟩
                case measure => simp [intOf]; omega
              · have hzb : (cv != 0) = true := by rw [bne_iff_ne]; omega
                have HZ := Lib.hid (show cmpK x y ks = cv by rw [HS.out, if_pos (by rw [HF.out]; omega), HF.out])
                clear HS H1 HF hz
                go_wp2_with fail
                go_ret
                exact ⟨ret_i64 HZ.out.symm, HBF.out⟩
            · have k2b : (vb.kind != 0) = true := by simpa using k2
              have HF := Lib.hid (show cmp1 x y ⟨kc, true⟩ = -cv by rw [H1.out, if_pos ⟨rfl, k1, k2⟩])
              clear k1 k2
              by_cases hz : cv = 0
              · subst hz
                have HZ := Lib.hid (show cmpK x y ks = cmpK x y (ks.drop (j + 1)) by rw [HS.out, if_neg (by rw [HF.out]; simp)])
                clear HS H1 HF
                go_wp2_with fail
                go_roundw
                case rel => exact ⟨j + 1, by omega, by go_num, HZ.out, HBF.out⟩
                case measure => simp [intOf]; omega
              · have hzb : (-cv != 0) = true := by rw [bne_iff_ne]; omega
                have HZ := Lib.hid (show cmpK x y ks = -cv by rw [HS.out, if_pos (by rw [HF.out]; omega), HF.out])
                clear HS H1 HF hz
                go_wp2_with fail
                go_ret
                exact ⟨ret_i64 HZ.out.symm, HBF.out⟩
    · have hjj : j = q := by omega
      subst hjj
      have hjn : ¬ ((j : Int) < (j : Int)) := by omega
      have he := hc.out
      rw [List.drop_eq_nil_of_le (by have := HQ.out; omega)] at he
      have HE := Lib.hid he
      clear he
      go_wp2_with fail
      go_ret
      exact ⟨ret_i64 HE.out.symm, hb.out⟩
end Go.Proofs.Ytifdpcjfjoekmaa
