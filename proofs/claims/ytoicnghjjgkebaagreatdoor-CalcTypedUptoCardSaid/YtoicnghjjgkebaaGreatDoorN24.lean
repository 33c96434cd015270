/-
  A drawn region, one step, however many operations are ready; cycle.New at no node: its contract. No condition.
  calc.graphOf at no formula; slices.SortFunc of no list: their contracts. No condition.
  A region that draws its order, operation by operation: each needs what it waits for and leaves the others' yields as they are. Condition: what binds points back.
  rounds.edges at no formula; Graph.size at no node: their contracts. Conditions: they lie in memory.
  Graph.Parts at no node, from what 'found' tells. Condition: found tells no part.
  Graph.found at no node: its contract. Condition: the graph lies in memory.
  Graph.Order at no node: its contract. Condition: the graph lies in memory.
-/
import Derived.Test.YtoicnghjjgkebaaGreatDoorN17
set_option linter.unusedSectionVars false
set_option linter.unusedSimpArgs false
set_option linter.unusedVariables false
set_option linter.unnecessarySimpa false
namespace Go.Proofs.YtoicnghjjgkebaaGreatDoor
open Go.RowKit Go.Shelf
section
variable {P : Program} {l : List Oper} {Q : Exit → Act → World → Prop} {S : World → Prop} {need : Nat → Bool} {g : Nat} {listed : Array Bool} {a : Act} {w : World}
theorem anyN_manyL (rs : List Nat) (hne : rs ≠ []) (hr : Region.ready .any l.toArray listed = rs)
    (h : ∀ i ∈ rs, wpList P l.toArray (Exit.then (fun a' w' => (need i = true → S w') ∧ wpAnyN P .any l.toArray Q S need g (listed.setIfInBounds i true) a' w') Q) ((l.drop i).take 1) a w) : wpAnyN P .any l.toArray Q S need (g + 1) listed a w :=
  ⟨fun h1 => absurd (hr.symm.trans h1) hne, fun i hi => by
    obtain ⟨o, ho, e⟩ := drop_take_one (l := l) (listed := listed) (i := i) hi
    have := h i (hr ▸ hi)
    rw [e] at this
    exact wpOp_of_list ho this⟩
end
@[go_sem ↓] theorem Tryz.makeN_cyc (w : World) : (Instr.makeMap 159 none).run Tryz.prog w = .ok (.map (some w.heap.size)) (w.alloc (.map #[] 0)) := by kernel_rfl
@[go_sem ↓] theorem Tryz.makeS_cyc (w : World) : (Instr.makeSlice 131 (.int .i64 0) (.int .i64 0)).run Tryz.prog w = .ok (.slice (some ⟨w.heap.size, 0, none⟩) 0 0) (w.alloc (.cells #[] 109)) := by kernel_rfl
theorem blk4 (w : World) (o1 o2 o3 : Obj) (ty : TypeId) (cs : Array Value) : Blk (((((w.alloc o1).alloc o2).alloc o3).alloc (.cells cs ty)).drew) (w.heap.size + 1 + 1 + 1) ty cs := by
  have := Blk.new (((w.alloc o1).alloc o2).alloc o3) ty cs
  simp only [World.size_alloc] at this
  exact this.kept rfl
theorem below4 (w : World) (o1 o2 o3 o4 : Obj) : Below w.heap.size w (((((w.alloc o1).alloc o2).alloc o3).alloc o4).drew) :=
  (((((Below.refl _ w).alloc (Nat.le_refl _) o1).alloc (by simp) o2).alloc (by simp; omega) o3).alloc (by simp; omega) o4).drew
set_option maxRecDepth 100000 in
set_option maxHeartbeats 2000000 in
theorem cyclenew_c (w : World) : Calls Tryz.prog 125 #[.int .i64 0] w fun e w' => (∃ q A B m, e = .returned (.pointer (some ⟨q, 0, none⟩)) ∧ Blk w' q 161 #[.slice A 0 0, .slice B 0 0, .map (some m)]) ∧ Below w.heap.size w w' := by
  have C0 : AllCells w.drew [] := trivial
  have e1 : min (0 : Int) 10000 = 0 := rfl
  have e2 : max (0 : Int) 0 = 0 := rfl
  go_enter Tryz.func125, Tryz.ntmps125
  go_upto_region 2 with fail
  refine rfree [0, 2] 6 (by kernel_rfl) (fun _ _ _ _ _ h => h) C0 ?_
  intro hne hu; try simp only [AllCells] at hu
  simp only [pick, pk]
  repeat (go_big_quiet_step (fail))
  refine wpQuiet_nil ?_; clear hne hu
  refine anyN_manyL [1, 3, 4] (by decide) (by kernel_rfl) ?_
  simp only [List.forall_mem_cons, List.not_mem_nil, false_imp_iff, implies_true, and_true]
  refine ⟨?_, ?_, ?_⟩ <;> simp only [pk]
  · go_wp2_with fail
    first | refine And.intro (fun _ => trivial) ?_ | refine And.intro trivial ?_ | skip
    refine anyN_manyL [3, 4] (by decide) (by kernel_rfl) ?_
    simp only [List.forall_mem_cons, List.not_mem_nil, false_imp_iff, implies_true, and_true]
    refine ⟨?_, ?_⟩ <;> simp only [pk]
    · go_wp2_with fail
      first | refine And.intro (fun _ => trivial) ?_ | refine And.intro trivial ?_ | skip
      refine anyN_oneL 4 (by kernel_rfl) ?_; simp only [pk]
      go_wp2_with fail
      first | refine And.intro (fun _ => trivial) ?_ | refine And.intro trivial ?_ | skip
      refine anyN_oneL 5 (by kernel_rfl) ?_; simp only [pk]
      go_wp2_with fail
      first | refine And.intro (fun _ => trivial) ?_ | refine And.intro trivial ?_ | skip
      refine anyN_oneL 6 (by kernel_rfl) ?_; simp only [pk]
      go_wp2_with fail
      first | refine And.intro (fun _ => trivial) ?_ | refine And.intro trivial ?_ | skip
      refine anyN_oneL 7 (by kernel_rfl) ?_; simp only [pk]
      go_wp2_with fail
      first | refine And.intro (fun _ => trivial) ?_ | refine And.intro trivial ?_ | skip
      refine ⟨by kernel_rfl, ?_⟩
      go_wp2_with fail
      go_ret
      exact ⟨⟨_, _, _, _, rfl, blk4 _ _ _ _ _ _⟩, below4 _ _ _ _ _⟩
    · go_wp2_with fail
      first | refine And.intro (fun _ => trivial) ?_ | refine And.intro trivial ?_ | skip
      refine anyN_oneL 3 (by kernel_rfl) ?_; simp only [pk]
      go_wp2_with fail
      first | refine And.intro (fun _ => trivial) ?_ | refine And.intro trivial ?_ | skip
      refine anyN_oneL 5 (by kernel_rfl) ?_; simp only [pk]
      go_wp2_with fail
      first | refine And.intro (fun _ => trivial) ?_ | refine And.intro trivial ?_ | skip
      refine anyN_oneL 6 (by kernel_rfl) ?_; simp only [pk]
      go_wp2_with fail
      first | refine And.intro (fun _ => trivial) ?_ | refine And.intro trivial ?_ | skip
      refine anyN_oneL 7 (by kernel_rfl) ?_; simp only [pk]
      go_wp2_with fail
      first | refine And.intro (fun _ => trivial) ?_ | refine And.intro trivial ?_ | skip
      refine ⟨by kernel_rfl, ?_⟩
      go_wp2_with fail
      go_ret
      exact ⟨⟨_, _, _, _, rfl, blk4 _ _ _ _ _ _⟩, below4 _ _ _ _ _⟩
  · go_wp2_with fail
    first | refine And.intro (fun _ => trivial) ?_ | refine And.intro trivial ?_ | skip
    refine anyN_manyL [1, 4] (by decide) (by kernel_rfl) ?_
    simp only [List.forall_mem_cons, List.not_mem_nil, false_imp_iff, implies_true, and_true]
    refine ⟨?_, ?_⟩ <;> simp only [pk]
    · go_wp2_with fail
      first | refine And.intro (fun _ => trivial) ?_ | refine And.intro trivial ?_ | skip
      refine anyN_oneL 4 (by kernel_rfl) ?_; simp only [pk]
      go_wp2_with fail
      first | refine And.intro (fun _ => trivial) ?_ | refine And.intro trivial ?_ | skip
      refine anyN_oneL 5 (by kernel_rfl) ?_; simp only [pk]
      go_wp2_with fail
      first | refine And.intro (fun _ => trivial) ?_ | refine And.intro trivial ?_ | skip
      refine anyN_oneL 6 (by kernel_rfl) ?_; simp only [pk]
      go_wp2_with fail
      first | refine And.intro (fun _ => trivial) ?_ | refine And.intro trivial ?_ | skip
      refine anyN_oneL 7 (by kernel_rfl) ?_; simp only [pk]
      go_wp2_with fail
      first | refine And.intro (fun _ => trivial) ?_ | refine And.intro trivial ?_ | skip
      refine ⟨by kernel_rfl, ?_⟩
      go_wp2_with fail
      go_ret
      exact ⟨⟨_, _, _, _, rfl, blk4 _ _ _ _ _ _⟩, below4 _ _ _ _ _⟩
    · go_wp2_with fail
      first | refine And.intro (fun _ => trivial) ?_ | refine And.intro trivial ?_ | skip
      refine anyN_oneL 1 (by kernel_rfl) ?_; simp only [pk]
      go_wp2_with fail
      first | refine And.intro (fun _ => trivial) ?_ | refine And.intro trivial ?_ | skip
      refine anyN_oneL 5 (by kernel_rfl) ?_; simp only [pk]
      go_wp2_with fail
      first | refine And.intro (fun _ => trivial) ?_ | refine And.intro trivial ?_ | skip
      refine anyN_oneL 6 (by kernel_rfl) ?_; simp only [pk]
      go_wp2_with fail
      first | refine And.intro (fun _ => trivial) ?_ | refine And.intro trivial ?_ | skip
      refine anyN_oneL 7 (by kernel_rfl) ?_; simp only [pk]
      go_wp2_with fail
      first | refine And.intro (fun _ => trivial) ?_ | refine And.intro trivial ?_ | skip
      refine ⟨by kernel_rfl, ?_⟩
      go_wp2_with fail
      go_ret
      exact ⟨⟨_, _, _, _, rfl, blk4 _ _ _ _ _ _⟩, below4 _ _ _ _ _⟩
  · go_wp2_with fail
    first | refine And.intro (fun _ => trivial) ?_ | refine And.intro trivial ?_ | skip
    refine anyN_manyL [1, 3] (by decide) (by kernel_rfl) ?_
    simp only [List.forall_mem_cons, List.not_mem_nil, false_imp_iff, implies_true, and_true]
    refine ⟨?_, ?_⟩ <;> simp only [pk]
    · go_wp2_with fail
      first | refine And.intro (fun _ => trivial) ?_ | refine And.intro trivial ?_ | skip
      refine anyN_oneL 3 (by kernel_rfl) ?_; simp only [pk]
      go_wp2_with fail
      first | refine And.intro (fun _ => trivial) ?_ | refine And.intro trivial ?_ | skip
      refine anyN_oneL 5 (by kernel_rfl) ?_; simp only [pk]
      go_wp2_with fail
      first | refine And.intro (fun _ => trivial) ?_ | refine And.intro trivial ?_ | skip
      refine anyN_oneL 6 (by kernel_rfl) ?_; simp only [pk]
      go_wp2_with fail
      first | refine And.intro (fun _ => trivial) ?_ | refine And.intro trivial ?_ | skip
      refine anyN_oneL 7 (by kernel_rfl) ?_; simp only [pk]
      go_wp2_with fail
      first | refine And.intro (fun _ => trivial) ?_ | refine And.intro trivial ?_ | skip
      refine ⟨by kernel_rfl, ?_⟩
      go_wp2_with fail
      go_ret
      exact ⟨⟨_, _, _, _, rfl, blk4 _ _ _ _ _ _⟩, below4 _ _ _ _ _⟩
    · go_wp2_with fail
      first | refine And.intro (fun _ => trivial) ?_ | refine And.intro trivial ?_ | skip
      refine anyN_oneL 1 (by kernel_rfl) ?_; simp only [pk]
      go_wp2_with fail
      first | refine And.intro (fun _ => trivial) ?_ | refine And.intro trivial ?_ | skip
      refine anyN_oneL 5 (by kernel_rfl) ?_; simp only [pk]
      go_wp2_with fail
      first | refine And.intro (fun _ => trivial) ?_ | refine And.intro trivial ?_ | skip
      refine anyN_oneL 6 (by kernel_rfl) ?_; simp only [pk]
      go_wp2_with fail
      first | refine And.intro (fun _ => trivial) ?_ | refine And.intro trivial ?_ | skip
      refine anyN_oneL 7 (by kernel_rfl) ?_; simp only [pk]
      go_wp2_with fail
      first | refine And.intro (fun _ => trivial) ?_ | refine And.intro trivial ?_ | skip
      refine ⟨by kernel_rfl, ?_⟩
      go_wp2_with fail
      go_ret
      exact ⟨⟨_, _, _, _, rfl, blk4 _ _ _ _ _ _⟩, below4 _ _ _ _ _⟩
end Go.Proofs.YtoicnghjjgkebaaGreatDoor
namespace Go.Proofs.YtoicnghjjgkebaaGreatDoor
open Go.RowKit Go.Shelf
def CycP (w : World) (e : Ending) (w' : World) : Prop := (∃ q A B m, e = .returned (.pointer (some ⟨q, 0, none⟩)) ∧ Blk w' q 161 #[.slice A 0 0, .slice B 0 0, .map (some m)]) ∧ Below w.heap.size w w'
set_option maxRecDepth 100000 in
set_option maxHeartbeats 2000000 in
theorem graphof_c (A0 : Option Addr) (c : Nat) (w : World) : Calls Tryz.prog 71 #[.slice A0 0 c] w (CycP w) := by
  have HC := Lib.hid (cyclenew_c w)
  go_enter Tryz.func71, Tryz.ntmps71
  go_wp2_with fail
  refine HC.out.mono ?_
  rintro _ w1 ⟨⟨q, A, B, m, rfl, hq⟩, hb⟩
  have HQ := Lib.hid (show CycP w (.returned (.pointer (some ⟨q, 0, none⟩))) w1 from ⟨⟨q, A, B, m, rfl, hq⟩, hb⟩)
  clear hq hb
  go_wp2_with fail
  go_loopw [13] (fun iv wx => iv = .int .i64 0 ∧ Hid (WIs w1 wx)) (fun _ _ => 0)
  case atStart => exact ⟨rfl, Lib.hid rfl⟩
  case round =>
    obtain ⟨rfl, hw⟩ := hrel
    obtain rfl : wr = w1 := hw.out
    go_wp2_with fail
    go_ret
    exact HQ.out
set_option maxRecDepth 100000 in
set_option maxHeartbeats 2000000 in
theorem inslist_n (A0 : Option Addr) (c : Nat) (f : Value) (w : World) : Calls Tryz.prog 274 #[.slice A0 0 c, .int .i64 0, .int .i64 0, f] w fun e w' => e = .returned (.tuple #[]) ∧ w' = w := by
  go_enter Tryz.func274, Tryz.ntmps274
  go_wp2_with fail
  go_loopw [8] (fun iv wx => iv = .int .i64 1 ∧ Hid (WIs w wx)) (fun _ _ => 0)
  case atStart => exact ⟨by go_num, Lib.hid rfl⟩
  case round =>
    obtain ⟨rfl, hw⟩ := hrel
    obtain rfl : wr = w := hw.out
    go_wp2_with fail
    go_end0
    exact ⟨rfl, rfl⟩
set_option maxRecDepth 100000 in
set_option maxHeartbeats 2000000 in
theorem pdqlist_n (A0 : Option Addr) (c : Nat) (k : Int) (f : Value) (w : World) : Calls Tryz.prog 202 #[.slice A0 0 c, .int .i64 0, .int .i64 0, .int .i64 k, f] w fun e w' => e = .returned (.tuple #[]) ∧ w' = w := by
  have HI := Lib.hid (inslist_n A0 c f w)
  go_enter Tryz.func202, Tryz.ntmps202
  go_wp2_with fail
  go_loopw [1, 2] (fun iv jv wx => iv = .int .i64 0 ∧ jv = .int .i64 0 ∧ Hid (WIs w wx)) (fun _ _ _ => 0)
  case atStart => exact ⟨rfl, rfl, Lib.hid rfl⟩
  case round =>
    obtain ⟨rfl, rfl, hw⟩ := hrel
    obtain rfl : wr = w := hw.out
    go_wp2_with fail
    refine HI.out.mono ?_
    rintro _ _ ⟨rfl, rfl⟩
    go_wp2_with fail
    exact bodyPost_ret (results_none rfl _ _ _) rfl ⟨rfl, rfl⟩
set_option maxRecDepth 100000 in
set_option maxHeartbeats 2000000 in
theorem sortlist_n (A0 : Option Addr) (c : Nat) (f : Value) (w : World) : Calls Tryz.prog 129 #[.slice A0 0 c, f] w fun e w' => e = .returned (.tuple #[]) ∧ Below w.heap.size w w' := by
  have HL := Lib.hid (blen_c 0 (by omega) w)
  have HP := Lib.hid (fun k W => pdqlist_n A0 c k f W)
  go_enter Tryz.func129, Tryz.ntmps129
  go_wp2_with fail
  refine HL.out.mono ?_
  rintro _ w1 ⟨k, rfl, b1⟩
  have B1 := Lib.hid b1
  clear b1
  go_wp2_with fail
  refine (HP.out _ _).mono ?_
  rintro _ _ ⟨rfl, rfl⟩
  go_wp2_with fail
  go_end0
  exact ⟨rfl, B1.out⟩
end Go.Proofs.YtoicnghjjgkebaaGreatDoor
namespace Go.Proofs.YtoicnghjjgkebaaGreatDoor
open Go.RowKit Go.Shelf
def downB (l : List Oper) : Bool := (List.range l.length).all fun i => match l[i]? with
  | some o => o.after.toList.all fun e => !Region.binds .any e || decide (e.on < i)
  | none => true
theorem downB_spec {l : List Oper} (h : downB l = true) {i : Nat} {o : Oper} (ho : l[i]? = some o) {e : Edge} (he : e ∈ o.after) (hb : Region.binds .any e = true) : e.on < i := by
  unfold downB at h
  have h1 := List.all_eq_true.1 h i (List.mem_range.2 (List.getElem?_eq_some_iff.1 ho).1)
  rw [ho] at h1
  have h2 := List.all_eq_true.1 h1 e (by simpa using he)
  simpa [hb] using h2
theorem any_inv {P : Program} {md : Region.Mode} {ops : Array Oper} {Q : Exit → Act → World → Prop} (I : Nat → Array Bool → Act → World → Prop)
    (h0 : ∀ l a w, I 0 l a w → Region.ready md ops l = [] ∧ Q .normal a w)
    (h1 : ∀ f l a w, I (f + 1) l a w → (Region.ready md ops l = [] → Q .normal a w) ∧ ∀ i ∈ Region.ready md ops l, wpOp P ops Q i (fun a' w' => I f (l.setIfInBounds i true) a' w') a w) :
    ∀ f l a w, I f l a w → wpAny P md ops Q f l a w
  | 0, l, a, w, h => h0 l a w h
  | f + 1, l, a, w, h => ⟨(h1 f l a w h).1, fun i hi => wpOp_mono (fun a' w' h' => any_inv I h0 h1 f _ a' w' h') ((h1 f l a w h).2 i hi)⟩
theorem all_listed {l : List Oper} (hd : downB l = true) {s : Array Bool} (hs : s.size = l.length) (h : Region.ready .any l.toArray s = []) : ∀ i, i < l.length → s.getD i false = true := by
  intro i
  induction i using Nat.strongRecOn with
  | _ i ih =>
    intro hi
    cases hb : s.getD i false with
    | true => rfl
    | false =>
      have : i ∈ Region.ready .any l.toArray s := mem_ready.2 ⟨by
        rw [Array.getD_eq_getD_getElem?, Array.getElem?_eq_getElem (by omega)] at hb ⊢
        simpa using hb, l[i], by simp [hi], fun e he hbn => ih e.on (downB_spec hd (List.getElem?_eq_getElem hi) he hbn) (Nat.lt_trans (downB_spec hd (List.getElem?_eq_getElem hi) he hbn) hi)⟩
      rw [h] at this
      cases this
theorem region_mod {P : Program} {id : Nat} {Q : Exit → Act → World → Prop} {a : Act} {w : World} {l : List Oper} (hm : P.follows .mixedOrders = true) (hd : downB l = true) (I : Act → World → Prop) (Post : Nat → Act → World → Prop) (h0 : I a w.drew)
    (hstep : ∀ (i : Nat) (o : Oper), l[i]? = some o → ∀ a w, I a w → (∀ e ∈ o.after, Region.binds .any e = true → Post e.on a w) → wpList P l.toArray (Exit.then (fun a' w' => I a' w' ∧ Post i a' w' ∧ ∀ j, j ≠ i → Post j a w → Post j a' w') Q) [o] a w)
    (hfin : ∀ a w, I a w → (∀ i, i < l.length → Post i a w) → Q .normal a w) : (Code.region id l.toArray true).wp P Q a w := by
  refine wp_region_any hm (any_inv (fun f s a w => I a w ∧ (∀ i, i < l.length → s.getD i false = true → Post i a w) ∧ s.size = l.length ∧ f = s.toList.count false) ?_ ?_ _ _ _ _ ⟨h0, ?_, by simp, by simp [List.count_replicate]⟩)
  · rintro s a w ⟨hI, hP, hs, hf⟩
    have hall : ∀ i, i < l.length → s.getD i false = true := fun i hi => by
      have h1 : false ∉ s.toList := List.count_eq_zero.1 hf.symm
      rw [Array.getD_eq_getD_getElem?, Array.getElem?_eq_getElem (by omega)]
      cases hb : s[i]'(by omega) with
      | true => rfl
      | false => exact absurd (by rw [← hb]; simp) h1
    refine ⟨?_, hfin a w hI fun i hi => hP i hi (hall i hi)⟩
    cases hr : Region.ready .any l.toArray s with
    | nil => rfl
    | cons j js =>
      have hj : j ∈ Region.ready .any l.toArray s := by rw [hr]; simp
      obtain ⟨h1, o, ho, -⟩ := mem_ready.1 hj
      have hjl : j < l.length := by simpa using (Array.getElem?_eq_some_iff.1 ho).1
      have h2 := hall j hjl
      rw [Array.getD_eq_getD_getElem?, Array.getElem?_eq_getElem (by omega)] at h1 h2
      simp at h1 h2
      rw [h1] at h2
      cases h2
  · rintro f s a w ⟨hI, hP, hs, hf⟩
    refine ⟨fun hr => hfin a w hI fun i hi => hP i hi (all_listed hd hs hr i hi), fun i hi => ?_⟩
    obtain ⟨h1, o, ho, hdep⟩ := mem_ready.1 hi
    have hol : l[i]? = some o := by simpa using ho
    have hil : i < l.length := (List.getElem?_eq_some_iff.1 hol).1
    refine wpOp_mono ?_ (wpOp_of_list ho (hstep i o hol a w hI fun e he hb => hP e.on (Nat.lt_trans (downB_spec hd hol he hb) hil) (hdep e he hb)))
    rintro a' w' ⟨hI', hi', hk⟩
    refine ⟨hI', fun j hj hl => ?_, by simpa using hs, ?_⟩
    · by_cases e : j = i
      · subst e; exact hi'
      · refine hk j e (hP j hj ?_)
        rw [Array.getD_eq_getD_getElem?, Array.getElem?_setIfInBounds_ne (fun h => e h.symm)] at hl
        rwa [Array.getD_eq_getD_getElem?]
    · rw [Array.toList_setIfInBounds, List.count_set (by simp; omega)]
      rw [Array.getD_eq_getD_getElem?, Array.getElem?_eq_getElem (by omega)] at h1
      simp at h1
      simp [h1]
      have e : Array.count false s = List.count false s.toList := by simp
      omega
  · intro i hi h
    rw [Array.getD_eq_getD_getElem?, Array.getElem?_replicate] at h
    split at h <;> simp at h
end Go.Proofs.YtoicnghjjgkebaaGreatDoor
namespace Go.Proofs.YtoicnghjjgkebaaGreatDoor
open Go.RowKit Go.Shelf
set_option maxRecDepth 100000 in
set_option maxHeartbeats 2000000 in
theorem edges_c (Rd : Nat) (w : World) (h : w.cell? ⟨Rd, 2, none⟩ = some (.slice none 0 0)) : Calls Tryz.prog 70 #[.pointer (some ⟨Rd, 0, none⟩)] w fun e w' => (∃ A c, e = .returned (.slice A 0 c)) ∧ Below w.heap.size w w' := by
  have hb : Below w.heap.size w (w.alloc (.cells #[] 109)) := (Below.refl _ _).alloc (Nat.le_refl _) _
  have HB := Lib.hid hb
  have c2 := (hb.cell (p := ⟨Rd, 2, none⟩) (World.block_lt_of_cell? w _ h)).trans h
  clear hb
  go_enter Tryz.func70, Tryz.ntmps70
  go_wp2_with fail
  generalize w.alloc (.cells #[] 109) = V at *
  go_loopw [26] (fun iv wx => iv = .int .i64 0 ∧ Hid (WIs V wx)) (fun _ _ => 0)
  case atStart => exact ⟨rfl, Lib.hid rfl⟩
  case round =>
    obtain ⟨rfl, hw⟩ := hrel
    obtain rfl : wr = V := hw.out
    go_wp2_with fail
    go_ret
    exact ⟨⟨_, _, rfl⟩, HB.out⟩
set_option maxRecDepth 100000 in
set_option maxHeartbeats 2000000 in
theorem gsize_c (q : Nat) (A : Option Addr) (c : Nat) (w : World) (h : w.cell? ⟨q, 0, none⟩ = some (.slice A 0 c)) : Calls Tryz.prog 109 #[.pointer (some ⟨q, 0, none⟩)] w fun e w' => e = .returned (.int .i64 0) ∧ w' = w := by
  go_enter Tryz.func109, Tryz.ntmps109
  go_wp2_with fail
  go_ret
  exact ⟨rfl, rfl⟩
set_option maxRecDepth 100000 in
set_option maxHeartbeats 2000000 in
theorem wide_c (Rd Rs : Nat) (A : Option Addr) (c : Nat) (w : World) (h : w.cell? ⟨Rd, 1, none⟩ = some (.pointer (some ⟨Rs, 0, none⟩))) (h6 : w.cell? ⟨Rs, 6, none⟩ = some (.slice A 0 c)) : Calls Tryz.prog 40 #[.pointer (some ⟨Rd, 0, none⟩)] w fun e w' => e = .returned (.slice none 0 0) ∧ Below w.heap.size w w' := by
  go_enter Tryz.func40, Tryz.ntmps40
  go_wp2_with fail
  go_loopw [3, 18] (fun sv iv wx => sv = .slice none 0 0 ∧ iv = .int .i64 0 ∧ Hid (WIs w wx)) (fun _ _ _ => 0)
  case atStart => exact ⟨rfl, rfl, Lib.hid rfl⟩
  case round =>
    obtain ⟨rfl, rfl, hw⟩ := hrel
    obtain rfl : wr = w := hw.out
    go_wp2_with fail
    go_ret
    exact ⟨rfl, Below.refl _ _⟩
end Go.Proofs.YtoicnghjjgkebaaGreatDoor
namespace Go.Proofs.YtoicnghjjgkebaaGreatDoor
open Go.RowKit Go.Shelf
def NoneP (w : World) (e : Ending) (w' : World) : Prop := (∃ A c, e = .returned (.slice A 0 c)) ∧ Below w.heap.size w w'
set_option maxRecDepth 100000 in
set_option maxHeartbeats 2000000 in
theorem parts_of (q : Nat) (w : World) (hf : Calls Tryz.prog 127 #[.pointer (some ⟨q, 0, none⟩)] w (NoneP w)) : Calls Tryz.prog 72 #[.pointer (some ⟨q, 0, none⟩)] w (NoneP w) := by
  have HF := Lib.hid hf
  have HS := Lib.hid (fun A c f W => sortlist_n A c f W)
  clear hf
  go_enter Tryz.func72, Tryz.ntmps72
  go_wp2_with fail
  refine HF.out.mono ?_
  rintro _ w1 ⟨⟨A, c, rfl⟩, b1⟩
  have B1 := Lib.hid b1
  clear b1 HF
  go_wp2_with fail
  go_loopw [10] (fun iv wx => iv = .int .i64 0 ∧ Hid (WIs w1 wx)) (fun _ _ => 0)
  case atStart => exact ⟨rfl, Lib.hid rfl⟩
  case round =>
    obtain ⟨rfl, hw⟩ := hrel
    obtain rfl : wr = w1 := hw.out
    go_wp2_with fail
    refine (HS.out _ _ _ _).mono ?_
    rintro _ w2 ⟨rfl, b2⟩
    have B2 := Lib.hid (B1.out.trans (b2.mono B1.out.size))
    clear b2
    go_wp2_with fail
    go_ret
    exact ⟨⟨_, _, rfl⟩, B2.out⟩
end Go.Proofs.YtoicnghjjgkebaaGreatDoor
namespace Go.Proofs.YtoicnghjjgkebaaGreatDoor
open Go.RowKit Go.Shelf
@[go_sem ↓] theorem Tryz.makeS_int (w : World) : (Instr.makeSlice 109 (.int .i64 0) (.int .i64 0)).run Tryz.prog w = .ok (.slice (some ⟨w.heap.size, 0, none⟩) 0 0) (w.alloc (.cells #[] 3)) := by kernel_rfl
@[go_sem ↓] theorem Tryz.makeS_bool (w : World) : (Instr.makeSlice 100 (.int .i64 0) (.int .i64 0)).run Tryz.prog w = .ok (.slice (some ⟨w.heap.size, 0, none⟩) 0 0) (w.alloc (.cells #[] 4)) := by kernel_rfl
@[go_sem] theorem run_store_fn {P : Program} {w : World} {a : Addr} {m : Mode} (fn : Fn) (first captured : Array Value) : (store a (.func fn first captured) m).run P w = stored P w a (.func fn first captured) m := run_store P w a _ m rfl
/-- A box that holds a slice of nothing. -/
def SB (w : World) (b : Nat) (ty : TypeId) : Prop := ∃ A c, Blk w b ty #[.slice A 0 c]
theorem SB.below {w w' : World} {b : Nat} {ty : TypeId} (h : SB w b ty) (k : Below w.heap.size w w') : SB w' b ty := by
  obtain ⟨A, c, h⟩ := h
  exact ⟨A, c, h.kept (k.block _ h.lt)⟩
theorem SB.store {w : World} {b b' : Nat} {ty : TypeId} (h : SB w b ty) (A : Option Addr) (c : Nat) : SB (w.setCell ⟨b', 0, none⟩ (.slice A 0 c)) b ty := by
  obtain ⟨A', c', h⟩ := h
  by_cases e : b = b'
  · subst e
    exact ⟨A, c, h.store 0 _⟩
  · exact ⟨A', c', h.kept (Below.heap_setCell _ _ _ _ e)⟩
/-- The frame at the region. -/
def foF (q : Nat) (w : World) (v5 v6 v7 v14 v15 v16 v17 v18 v19 : Value) : Act := { tmps := #[.pointer (some ⟨q, 0, none⟩), .pointer (some ⟨w.heap.size, 0, none⟩), .slice none 0 0, .pointer (some ⟨w.heap.size + 1, 0, none⟩), .int .i64 0, v5, v6, v7, undef, undef, undef, undef, .pointer (some ⟨q, 0, none⟩), .int .i64 0, v14, v15, v16, v17, v18, v19, undef, undef, undef, undef, undef, undef, undef, undef, undef, undef, undef, undef, undef, undef, undef], defers := [] }
def foI (q : Nat) (w : World) (a : Act) (W : World) : Prop := ∃ v5 v6 v7 v14 v15 v16 v17 v18 v19, a = foF q w v5 v6 v7 v14 v15 v16 v17 v18 v19 ∧ Below w.heap.size w W ∧ Blk W (w.heap.size + 1) 131 #[.slice none 0 0] ∧ w.heap.size + 2 ≤ W.heap.size
def foP (w : World) (i : Nat) (a : Act) (W : World) : Prop := match i with
  | 0 => a.tmps.getD 14 undef = .int .i64 0
  | 1 => ∃ A c, a.tmps.getD 15 undef = .slice A 0 c
  | 2 => a.tmps.getD 16 undef = .int .i64 0
  | 3 => ∃ A c, a.tmps.getD 17 undef = .slice A 0 c
  | 4 => a.tmps.getD 18 undef = .int .i64 0
  | 5 => ∃ A c, a.tmps.getD 19 undef = .slice A 0 c
  | 6 => ∃ b, a.tmps.getD 5 undef = .pointer (some ⟨b, 0, none⟩) ∧ w.heap.size + 2 ≤ b ∧ SB W b 109
  | 7 => ∃ b, a.tmps.getD 6 undef = .pointer (some ⟨b, 0, none⟩) ∧ w.heap.size + 2 ≤ b ∧ SB W b 109
  | 8 => ∃ b, a.tmps.getD 7 undef = .pointer (some ⟨b, 0, none⟩) ∧ w.heap.size + 2 ≤ b ∧ SB W b 100
  | _ => True
theorem foB {w W W' : World} (h : Below w.heap.size w W ∧ Blk W (w.heap.size + 1) 131 #[.slice none 0 0] ∧ w.heap.size + 2 ≤ W.heap.size) (bl : Below W.heap.size W W') : Below w.heap.size w W' ∧ Blk W' (w.heap.size + 1) 131 #[.slice none 0 0] ∧ w.heap.size + 2 ≤ W'.heap.size :=
  ⟨h.1.trans (bl.mono h.1.size), h.2.1.kept (bl.block _ h.2.1.lt), Nat.le_trans h.2.2 bl.size⟩
theorem foS {w W : World} (h : Below w.heap.size w W ∧ Blk W (w.heap.size + 1) 131 #[.slice none 0 0] ∧ w.heap.size + 2 ≤ W.heap.size) {b : Nat} (hb : w.heap.size + 2 ≤ b) (A : Option Addr) (c : Nat) : Below w.heap.size w (W.setCell ⟨b, 0, none⟩ (.slice A 0 c)) ∧ Blk (W.setCell ⟨b, 0, none⟩ (.slice A 0 c)) (w.heap.size + 1) 131 #[.slice none 0 0] ∧ w.heap.size + 2 ≤ (W.setCell ⟨b, 0, none⟩ (.slice A 0 c)).heap.size :=
  ⟨h.1.setCell (by show w.heap.size ≤ b; omega) _, h.2.1.kept (Below.heap_setCell _ _ _ _ (by show w.heap.size + 1 ≠ b; omega)), by simpa [World.setCell] using h.2.2⟩
set_option maxRecDepth 100000 in
set_option maxHeartbeats 2000000 in
theorem found_c (q : Nat) (A : Option Addr) (c : Nat) (w : World) (h : w.cell? ⟨q, 0, none⟩ = some (.slice A 0 c)) : Calls Tryz.prog 127 #[.pointer (some ⟨q, 0, none⟩)] w (NoneP w) := by
  have hb := ((Below.refl w.heap.size w).alloc (Nat.le_refl _) (.cells #[.pointer (some ⟨q, 0, none⟩)] 101)).alloc (by simp) (.cells #[.slice none 0 0] 131)
  have HB := Lib.hid hb
  have HS := Lib.hid (gsize_c q A c _ ((hb.cell (p := ⟨q, 0, none⟩) (World.block_lt_of_cell? w _ h)).trans h))
  clear hb h
  go_enter Tryz.func127, Tryz.ntmps127
  go_wp2_with fail
  refine HS.out.mono ?_
  rintro _ _ ⟨rfl, rfl⟩
  go_upto_region 3 with fail
  refine region_mod (by kernel_rfl) (by kernel_rfl) (foI q w) (foP w) ?h0 ?hstep ?hfin
  case h0 => exact ⟨undef, undef, undef, undef, undef, undef, undef, undef, undef, rfl, HB.out.drew, (by
    have := Blk.new (w.alloc (.cells #[.pointer (some ⟨q, 0, none⟩)] 101)) 131 #[.slice none 0 0]
    rw [World.size_alloc] at this
    exact this.kept rfl), by simp [World.drew]⟩
  case hstep =>
    rintro i o ho a W ⟨v5, v6, v7, v14, v15, v16, v17, v18, v19, rfl, hI⟩ hd
    rcases i with _ | i
    · skip
      simp only [List.getElem?_cons_succ, List.getElem?_cons_zero, Option.some.injEq] at ho
      subst ho
      unfold foF
      go_wp2_with fail
      exact ⟨⟨_, _, _, _, _, _, _, _, _, rfl, hI⟩, rfl, fun j hj h => by rcases j with _ | _ | _ | _ | _ | _ | _ | _ | _ | j <;> first | exact absurd rfl hj | exact h | exact (let ⟨b, g1, g2, g3⟩ := h; ⟨b, g1, g2, g3⟩)⟩
    rcases i with _ | i
    · skip
      simp only [List.getElem?_cons_succ, List.getElem?_cons_zero, Option.some.injEq] at ho
      subst ho
      have p0 : v14 = .int .i64 0 := hd ⟨0, .data⟩ (by simp) rfl
      subst p0
      have bl : Below W.heap.size W (W.alloc (.cells #[] 3)) := (Below.refl _ _).alloc (Nat.le_refl _) _
      have hI2 := foB hI bl
      unfold foF
      go_wp2_with fail
      exact ⟨⟨_, _, _, _, _, _, _, _, _, rfl, hI2⟩, ⟨_, _, rfl⟩, fun j hj h => by rcases j with _ | _ | _ | _ | _ | _ | _ | _ | _ | j <;> first | exact absurd rfl hj | exact h | exact (let ⟨b, g1, g2, g3⟩ := h; ⟨b, g1, g2, g3.below bl⟩)⟩
    rcases i with _ | i
    · skip
      simp only [List.getElem?_cons_succ, List.getElem?_cons_zero, Option.some.injEq] at ho
      subst ho
      unfold foF
      go_wp2_with fail
      exact ⟨⟨_, _, _, _, _, _, _, _, _, rfl, hI⟩, rfl, fun j hj h => by rcases j with _ | _ | _ | _ | _ | _ | _ | _ | _ | j <;> first | exact absurd rfl hj | exact h | exact (let ⟨b, g1, g2, g3⟩ := h; ⟨b, g1, g2, g3⟩)⟩
    rcases i with _ | i
    · skip
      simp only [List.getElem?_cons_succ, List.getElem?_cons_zero, Option.some.injEq] at ho
      subst ho
      have p0 : v16 = .int .i64 0 := hd ⟨2, .data⟩ (by simp) rfl
      subst p0
      have bl : Below W.heap.size W (W.alloc (.cells #[] 3)) := (Below.refl _ _).alloc (Nat.le_refl _) _
      have hI2 := foB hI bl
      unfold foF
      go_wp2_with fail
      exact ⟨⟨_, _, _, _, _, _, _, _, _, rfl, hI2⟩, ⟨_, _, rfl⟩, fun j hj h => by rcases j with _ | _ | _ | _ | _ | _ | _ | _ | _ | j <;> first | exact absurd rfl hj | exact h | exact (let ⟨b, g1, g2, g3⟩ := h; ⟨b, g1, g2, g3.below bl⟩)⟩
    rcases i with _ | i
    · skip
      simp only [List.getElem?_cons_succ, List.getElem?_cons_zero, Option.some.injEq] at ho
      subst ho
      unfold foF
      go_wp2_with fail
      exact ⟨⟨_, _, _, _, _, _, _, _, _, rfl, hI⟩, rfl, fun j hj h => by rcases j with _ | _ | _ | _ | _ | _ | _ | _ | _ | j <;> first | exact absurd rfl hj | exact h | exact (let ⟨b, g1, g2, g3⟩ := h; ⟨b, g1, g2, g3⟩)⟩
    rcases i with _ | i
    · skip
      simp only [List.getElem?_cons_succ, List.getElem?_cons_zero, Option.some.injEq] at ho
      subst ho
      have p0 : v18 = .int .i64 0 := hd ⟨4, .data⟩ (by simp) rfl
      subst p0
      have bl : Below W.heap.size W (W.alloc (.cells #[] 4)) := (Below.refl _ _).alloc (Nat.le_refl _) _
      have hI2 := foB hI bl
      unfold foF
      go_wp2_with fail
      exact ⟨⟨_, _, _, _, _, _, _, _, _, rfl, hI2⟩, ⟨_, _, rfl⟩, fun j hj h => by rcases j with _ | _ | _ | _ | _ | _ | _ | _ | _ | j <;> first | exact absurd rfl hj | exact h | exact (let ⟨b, g1, g2, g3⟩ := h; ⟨b, g1, g2, g3.below bl⟩)⟩
    rcases i with _ | i
    · skip
      simp only [List.getElem?_cons_succ, List.getElem?_cons_zero, Option.some.injEq] at ho
      subst ho
      have bl : Below W.heap.size W (W.alloc (.cells #[.slice none 0 0] 109)) := (Below.refl _ _).alloc (Nat.le_refl _) _
      have hI2 := foB hI bl
      have hs := hI.2.2
      unfold foF
      go_wp2_with fail
      exact ⟨⟨_, _, _, _, _, _, _, _, _, rfl, hI2⟩, ⟨_, rfl, hs, _, _, Blk.new W _ _⟩, fun j hj h => by rcases j with _ | _ | _ | _ | _ | _ | _ | _ | _ | j <;> first | exact absurd rfl hj | exact h | exact (let ⟨b, g1, g2, g3⟩ := h; ⟨b, g1, g2, g3.below bl⟩)⟩
    rcases i with _ | i
    · skip
      simp only [List.getElem?_cons_succ, List.getElem?_cons_zero, Option.some.injEq] at ho
      subst ho
      have bl : Below W.heap.size W (W.alloc (.cells #[.slice none 0 0] 109)) := (Below.refl _ _).alloc (Nat.le_refl _) _
      have hI2 := foB hI bl
      have hs := hI.2.2
      unfold foF
      go_wp2_with fail
      exact ⟨⟨_, _, _, _, _, _, _, _, _, rfl, hI2⟩, ⟨_, rfl, hs, _, _, Blk.new W _ _⟩, fun j hj h => by rcases j with _ | _ | _ | _ | _ | _ | _ | _ | _ | j <;> first | exact absurd rfl hj | exact h | exact (let ⟨b, g1, g2, g3⟩ := h; ⟨b, g1, g2, g3.below bl⟩)⟩
    rcases i with _ | i
    · skip
      simp only [List.getElem?_cons_succ, List.getElem?_cons_zero, Option.some.injEq] at ho
      subst ho
      have bl : Below W.heap.size W (W.alloc (.cells #[.slice none 0 0] 100)) := (Below.refl _ _).alloc (Nat.le_refl _) _
      have hI2 := foB hI bl
      have hs := hI.2.2
      unfold foF
      go_wp2_with fail
      exact ⟨⟨_, _, _, _, _, _, _, _, _, rfl, hI2⟩, ⟨_, rfl, hs, _, _, Blk.new W _ _⟩, fun j hj h => by rcases j with _ | _ | _ | _ | _ | _ | _ | _ | _ | j <;> first | exact absurd rfl hj | exact h | exact (let ⟨b, g1, g2, g3⟩ := h; ⟨b, g1, g2, g3.below bl⟩)⟩
    rcases i with _ | i
    · skip
      simp only [List.getElem?_cons_succ, List.getElem?_cons_zero, Option.some.injEq] at ho
      subst ho
      obtain ⟨b, p1, p2, A1, c1, p3⟩ : ∃ b, v5 = .pointer (some ⟨b, 0, none⟩) ∧ w.heap.size + 2 ≤ b ∧ SB W b 109 := hd ⟨6, .data⟩ (by simp) rfl
      obtain ⟨A2, c2, p4⟩ : ∃ A c, v15 = .slice A 0 c := hd ⟨1, .data⟩ (by simp) rfl
      subst p1 p4
      have d0 := p3.cell 0
      have f0 := p3.frozen 0
      simp only [List.getElem?_toArray, List.getElem?_cons_zero] at d0
      have hI2 := foS hI (b := b) p2 A2 c2
      clear p3
      unfold foF
      go_wp2_with fail
      exact ⟨⟨_, _, _, _, _, _, _, _, _, rfl, hI2⟩, trivial, fun j hj h => by rcases j with _ | _ | _ | _ | _ | _ | _ | _ | _ | j <;> first | exact absurd rfl hj | exact h | exact (let ⟨b, g1, g2, g3⟩ := h; ⟨b, g1, g2, g3.store _ _⟩)⟩
    rcases i with _ | i
    · skip
      simp only [List.getElem?_cons_succ, List.getElem?_cons_zero, Option.some.injEq] at ho
      subst ho
      obtain ⟨b, p1, p2, A1, c1, p3⟩ : ∃ b, v6 = .pointer (some ⟨b, 0, none⟩) ∧ w.heap.size + 2 ≤ b ∧ SB W b 109 := hd ⟨7, .data⟩ (by simp) rfl
      obtain ⟨A2, c2, p4⟩ : ∃ A c, v17 = .slice A 0 c := hd ⟨3, .data⟩ (by simp) rfl
      subst p1 p4
      have d0 := p3.cell 0
      have f0 := p3.frozen 0
      simp only [List.getElem?_toArray, List.getElem?_cons_zero] at d0
      have hI2 := foS hI (b := b) p2 A2 c2
      clear p3
      unfold foF
      go_wp2_with fail
      exact ⟨⟨_, _, _, _, _, _, _, _, _, rfl, hI2⟩, trivial, fun j hj h => by rcases j with _ | _ | _ | _ | _ | _ | _ | _ | _ | j <;> first | exact absurd rfl hj | exact h | exact (let ⟨b, g1, g2, g3⟩ := h; ⟨b, g1, g2, g3.store _ _⟩)⟩
    rcases i with _ | i
    · skip
      simp only [List.getElem?_cons_succ, List.getElem?_cons_zero, Option.some.injEq] at ho
      subst ho
      obtain ⟨b, p1, p2, A1, c1, p3⟩ : ∃ b, v7 = .pointer (some ⟨b, 0, none⟩) ∧ w.heap.size + 2 ≤ b ∧ SB W b 100 := hd ⟨8, .data⟩ (by simp) rfl
      obtain ⟨A2, c2, p4⟩ : ∃ A c, v19 = .slice A 0 c := hd ⟨5, .data⟩ (by simp) rfl
      subst p1 p4
      have d0 := p3.cell 0
      have f0 := p3.frozen 0
      simp only [List.getElem?_toArray, List.getElem?_cons_zero] at d0
      have hI2 := foS hI (b := b) p2 A2 c2
      clear p3
      unfold foF
      go_wp2_with fail
      exact ⟨⟨_, _, _, _, _, _, _, _, _, rfl, hI2⟩, trivial, fun j hj h => by rcases j with _ | _ | _ | _ | _ | _ | _ | _ | _ | j <;> first | exact absurd rfl hj | exact h | exact (let ⟨b, g1, g2, g3⟩ := h; ⟨b, g1, g2, g3.store _ _⟩)⟩
    simp at ho
  case hfin =>
    rintro a W ⟨v5, v6, v7, v14, v15, v16, v17, v18, v19, rfl, hI⟩ hP
    obtain ⟨b5, p5, -, -⟩ : ∃ b, v5 = .pointer (some ⟨b, 0, none⟩) ∧ _ ∧ _ := hP 6 (by simp)
    obtain ⟨b6, p6, -, -⟩ : ∃ b, v6 = .pointer (some ⟨b, 0, none⟩) ∧ _ ∧ _ := hP 7 (by simp)
    obtain ⟨b7, p7, -, -⟩ : ∃ b, v7 = .pointer (some ⟨b, 0, none⟩) ∧ _ ∧ _ := hP 8 (by simp)
    subst p5 p6 p7
    clear hP HB HS
    unfold foF
    go_upto_region 8 with fail
    have hA : ∀ o1 o2 o3 : Obj, Below W.heap.size W (((W.alloc o1).alloc o2).alloc o3) := fun o1 o2 o3 => (((Below.refl _ W).alloc (Nat.le_refl _) o1).alloc (by simp) o2).alloc (by simp; omega) o3
    generalize hV : ((W.alloc _).alloc _).alloc _ = V
    have hI3 := Lib.hid (foB hI (show Below W.heap.size W V by rw [← hV]; exact hA _ _ _))
    clear hI hA hV
    have c3 := hI3.out.2.1.cell 0
    simp only [List.getElem?_toArray, List.getElem?_cons_zero] at c3
    go_wp2_with fail
    go_loopw [22] (fun iv wx => iv = .int .i64 0 ∧ Hid (WIs V wx)) (fun _ _ => 0)
    case atStart => exact ⟨rfl, Lib.hid rfl⟩
    case round =>
      obtain ⟨rfl, hw⟩ := hrel
      obtain rfl : wr = V := hw.out
      go_wp2_with fail
      go_ret
      exact ⟨⟨_, _, rfl⟩, hI3.out.1⟩
end Go.Proofs.YtoicnghjjgkebaaGreatDoor
namespace Go.Proofs.YtoicnghjjgkebaaGreatDoor
open Go.RowKit Go.Shelf
set_option maxRecDepth 100000 in
set_option maxHeartbeats 2000000 in
theorem slen0_c (A : Option Addr) (c : Nat) (w : World) : Calls Tryz.prog 134 #[.slice A 0 c] w fun e w' => e = .returned (.int .i64 0) ∧ w' = w := by
  go_enter Tryz.func134, Tryz.ntmps134
  go_wp2
  go_ret
  exact ⟨rfl, rfl⟩
set_option maxRecDepth 100000 in
set_option maxHeartbeats 2000000 in
theorem order0_c (q : Nat) (A : Option Addr) (c : Nat) (w : World) (h : w.cell? ⟨q, 0, none⟩ = some (.slice A 0 c)) : Calls Tryz.prog 75 #[.pointer (some ⟨q, 0, none⟩)] w (NoneP w) := by
  have HP := Lib.hid (parts_of q w (found_c q A c w h))
  have HS := Lib.hid (fun W (b : Below w.heap.size w W) => gsize_c q A c W ((b.cell (p := ⟨q, 0, none⟩) (World.block_lt_of_cell? w _ h)).trans h))
  have HL := Lib.hid (fun W => slen0_c none 0 W)
  clear h
  go_enter Tryz.func75, Tryz.ntmps75
  go_wp2_with fail
  refine HP.out.mono ?_
  rintro _ w1 ⟨⟨A1, c1, rfl⟩, b1⟩
  have HS1 := Lib.hid (HS.out w1 b1)
  have HB2 := Lib.hid (b1.alloc b1.size (.cells #[] 3))
  clear HS HP b1
  go_wp2_with fail
  refine HS1.out.mono ?_
  rintro _ w2 ⟨rfl, rfl⟩
  clear HS1
  go_upto_region 3 with fail
  generalize w2.alloc (.cells #[] 3) = V at *
  go_wp2_with fail
  go_loopw [30] (fun iv wx => iv = .int .i64 0 ∧ Hid (WIs V wx)) (fun _ _ => 0)
  case atStart => exact ⟨rfl, Lib.hid rfl⟩
  case round =>
    obtain ⟨rfl, hw⟩ := hrel
    obtain rfl : wr = V := hw.out
    have HB3 := Lib.hid (HB2.out.alloc HB2.out.size (.cells #[] 3))
    clear HB2 hw
    go_upto_region 13 with fail
    generalize wr.alloc (.cells #[] 3) = V at *
    go_wp2_with fail
    go_loopw [52] (fun iv wx => iv = .int .i64 0 ∧ Hid (WIs V wx)) (fun _ _ => 0)
    case atStart => exact ⟨rfl, Lib.hid rfl⟩
    case round =>
      obtain ⟨rfl, hw⟩ := hrel
      obtain rfl : wr = V := hw.out
      have HB4 := Lib.hid (HB3.out.alloc HB3.out.size (.cells #[.slice none 0 0] 256))
      have HC4 := Lib.hid ((Blk.new wr 256 #[.slice none 0 0]).cell 0)
      clear HB3 hw
      go_upto_region 24 with fail
      obtain ⟨b, hb⟩ : ∃ b, b = wr.heap.size := ⟨_, rfl⟩
      rw [← hb] at HC4 ⊢
      clear hb
      generalize wr.alloc (.cells #[.slice none 0 0] 256) = V at *
      have c4 : V.cell? ⟨b, 0, none⟩ = some (.slice none 0 0) := HC4.out
      go_wp2_with fail
      go_loopw [91] (fun iv wx => iv = .int .i64 0 ∧ Hid (WIs V wx)) (fun _ _ => 0)
      case atStart => exact ⟨rfl, Lib.hid rfl⟩
      case round =>
        obtain ⟨rfl, hw⟩ := hrel
        obtain rfl : wr = V := hw.out
        clear hw
        go_wp2_with fail
        go_loopw [15] (fun iv wx => iv = .slice none 0 0 ∧ Hid (WIs wr wx)) (fun _ _ => 0)
        case atStart => exact ⟨rfl, Lib.hid rfl⟩
        case round =>
          obtain ⟨rfl, hw⟩ := hrel
          have e := hw.out
          subst e
          go_wp2_with fail
          refine (HL.out _).mono ?_
          rintro _ _ ⟨rfl, rfl⟩
          go_wp2_with fail
          go_ret
          exact ⟨⟨_, _, rfl⟩, HB4.out⟩
end Go.Proofs.YtoicnghjjgkebaaGreatDoor
