/-
  counterpanelaw30.OrderStands: its contract. Condition: the rows and keys can be read, the rows' ints fit 64 bits.
-/
import Derived.Test.YtifdpcjfjoekmaaD2
import Derived.Test.YtifdpcjfjoekmaaF2
namespace Go.Proofs.Ytifdpcjfjoekmaa
open Go.RowKit

def boolA (d : List Bool) : Array Value := (d.map fun (x : Bool) => Value.bool x).toArray
theorem boolA_set (d : List Bool) (p : Nat) (v : Bool) : (boolA d).setIfInBounds p (.bool v) = boolA (d.set p v) := by
  simp [boolA, List.map_set]
theorem Try.info4 : (Try.prog.info? 4).map (fun i => (i.zero, i.size, i.bytes)) = some (some (.bool false), 1, 1) := by kernel_rfl
theorem make32 (n : Nat) (hn : n ≤ 1000000) (w : World) : (Instr.makeSlice 32 (.int .i64 (n : Int)) (.int .i64 (n : Int))).run Try.prog w =
    .ok (.slice (some ⟨w.heap.size, 0, none⟩) n n) (w.alloc (.cells (boolA (List.replicate n false)) 4)) := by
  obtain ⟨i0, hi, hz0, hz1, hz2⟩ := info_parts Try.info4
  have h := run_make (P := Try.prog) w 32 4 i0 (.bool false) Try.underlying32 hi hz0 .i64 .i64 n n (by omega) (by omega) (by rw [hz2]; omega) (by omega)
  rw [h]
  have e : madeCells (Value.cells (.bool false)) (n * 1) = boolA (List.replicate n false) := by
    apply Array.ext
    · simp [size_madeCells, boolA]
    · intro j h1 h2
      have : j % 1 = 0 := Nat.mod_one _
      simp [madeCells, Value.cells, this, boolA]
  simp only [Int.toNat_natCast, hz1, e]
/-- Which places have been told: those of the first i. -/
structure Seen (w : World) (g n : Nat) (d : List Nat) (i : Nat) (W : World) (s : List Bool) : Prop where
  off : Off g w W
  blk : Blk W g 4 (boolA s)
  len : s.length = n
  mem : ∀ x, x < n → (s.getD x false = true ↔ x ∈ d.take i)
theorem Seen.next {w W W' : World} {g n i : Nat} {d : List Nat} {s : List Bool} (h : Seen w g n d i W s) (b : Below W.heap.size W W') : Seen w g n d i W' s := ⟨h.off.next b, h.blk.kept (b.block _ h.blk.lt), h.len, h.mem⟩
theorem Seen.step {w W : World} {g n i : Nat} {d : List Nat} {s : List Bool} (h : Seen w g n d i W s) (hi : i < d.length) (hx : D d i < n) : Seen w g n d (i + 1) (W.setCell ⟨g, D d i, none⟩ (.bool true)) (s.set (D d i) true) := by
  refine ⟨h.off.set _ _, by have := h.blk.store (D d i) (.bool true); rw [boolA_set] at this; exact this, by rw [List.length_set, h.len], fun x hx' => ?_⟩
  rw [List.take_succ_eq_append_getElem hi, List.mem_append, List.mem_singleton, ← D_at hi, ← h.mem x hx']
  by_cases e : D d i = x
  · subst e
    simp [List.getD, h.len, hx]
  · rw [List.getD, List.getElem?_set_ne e]
    constructor
    · intro h2; exact .inl h2
    · rintro (h2 | h2)
      · exact h2
      · exact absurd h2.symm e
/-- What Stands asks of two places, one behind the other. -/
theorem stands_plain {rs : List RowD} {ks : List KeyD} {n : Nat} {d : List Nat} (h : Sorted (cmpAt rs ks) n d) {j : Nat} (hj : j + 1 < n) :
    ¬ cmpAt rs ks (D d (j + 1)) (D d j) < 0 ∧ (¬ cmpAt rs ks (D d j) (D d (j + 1)) < 0 → ¬ D d (j + 1) < D d j) := by
  have h1 := h.srt j (j + 1) (Nat.zero_le _) (by omega) hj
  have anti : ∀ x y, cmpAt rs ks y x = -cmpAt rs ks x y := fun x y => cmpK_anti (rowAt rs x) (rowAt rs y) ks
  have a := anti (D d j) (D d (j + 1))
  unfold T at h1
  refine ⟨fun h2 => ?_, fun h2 h3 => ?_⟩
  · rcases h1 with h1 | ⟨h1, _⟩
    · omega
    · exact h1 h2
  · rcases h1 with h1 | ⟨_, h1⟩
    · exact h2 h1
    · omega
theorem not_seen {d : List Nat} {n i : Nat} {cf : Nat → Nat → Int} (h : Sorted cf n d) (hi : i < n) : D d i ∉ d.take i := by
  have hl := h.length
  have hi' : i < d.length := by omega
  intro hm
  rw [D_at hi'] at hm
  obtain ⟨k, hk, he⟩ := List.mem_iff_getElem.1 hm
  have hki : k < i := by rw [List.length_take] at hk; omega
  rw [List.getElem_take] at he
  have nd : d.Nodup := h.perm.nodup_iff.2 List.nodup_range
  have := (List.getElem_inj nd).1 he
  omega

set_option maxRecDepth 100000 in
set_option maxHeartbeats 2000000 in
theorem stands_c (A K : Option Addr) (n ca q ck : Nat) (rs : List RowD) (ks : List KeyD) (w : World) (hA : RowsW w A rs) (hK : ManyR keyCells 2 w K ks) (hn : rs.length = n) (hq : ks.length = q) (hm : n ≤ 9223372036854775807) (hm2 : q ≤ 9223372036854775807) :
    Calls Try.prog 4 #[.slice A n ca, .slice K q ck] w (IsTrue w) := by
  have HA := Lib.hid hA
  have HN := Lib.hid hn
  have HK := Lib.hid hK
  have HQ := Lib.hid hq
  clear hA hn hK hq
  go_enter Try.func4, Try.ntmps4
  go_wp2_with fail
  refine (awake_c w).mono ?_
  rintro e w1 ⟨rfl, b1⟩
  have HB1 := Lib.hid b1
  clear b1
  go_wp2_with fail
  refine (great_c A n ca rs w1 (HA.out.next HB1.out) HN.out hm).mono ?_
  rintro e w2 ⟨gr, rfl, hgr, bb⟩
  have HB2 := Lib.hid (HB1.out.trans (bb.mono HB1.out.size))
  have HGR := Lib.hid hgr
  clear bb HB1 hgr
  cases gr
  case true =>
    go_wp2_with fail
    go_ret
    exact ⟨rfl, HB2.out⟩
  have HROk := Lib.hid (HGR.out (by first | trivial | rfl))
  have hn60 : n ≤ 60 := by have := HROk.out.2; rw [HN.out] at this; exact this
  have HRows : Hid (∀ W, Below w.heap.size w W → RowsR W A rs) := Lib.hid (fun W hW => by
    have h := HA.out.next hW
    exact ⟨h.top, h.row, fun r hr => ⟨(h.len r hr).1, Nat.le_trans (HROk.out.1 r hr).2 (by decide)⟩⟩)
  clear HGR hm
  by_cases hq20 : q ≤ 20
  case neg =>
    have hqb : decide ((20 : Int) < (q : Int)) = true := decide_eq_true (by omega)
    clear hq20
    go_wp2_with fail
    go_ret
    exact ⟨rfl, HB2.out⟩
  have hqb : decide ((20 : Int) < (q : Int)) = false := decide_eq_false (by omega)
  go_wp2_with fail
  refine (keys_c K q ck ks w2 (HK.out.next HB2.out) HQ.out hq20).mono ?_
  rintro e w3 ⟨K3, c3, rfl, bb, k3⟩
  rw [HQ.out]
  have HB3 := Lib.hid (HB2.out.trans (bb.mono HB2.out.size))
  have HK3 := Lib.hid k3
  clear bb k3 HB2
  go_wp2_with fail
  refine (perm_c A K3 n ca q c3 rs ks w3 (HRows.out _ HB3.out) HK3.out HN.out HQ.out hn60 (by omega) (fun r hr => (HROk.out.1 r hr).1)).mono ?_
  rintro e w4 ⟨gp, d, cp, rfl, _, bb, kp, sp⟩
  have HB4 := Lib.hid (HB3.out.trans (bb.mono HB3.out.size))
  have P4 := Lib.hid kp
  have SP := Lib.hid sp
  clear bb kp sp HB3 HK3
  have hmk := make32 n (by omega) w4
  obtain ⟨g, hg⟩ : ∃ g, w4.heap.size = g := ⟨_, rfl⟩
  obtain ⟨W5, hW5⟩ : ∃ W5, w4.alloc (.cells (boolA (List.replicate n false)) 4) = W5 := ⟨_, rfl⟩
  have HS0 := Lib.hid (show Seen w4 g n d 0 W5 (List.replicate n false) from ⟨by rw [← hW5]; exact (Off.refl _ _).next ((Below.refl _ _).alloc (Nat.le_refl _) _), by rw [← hW5, ← hg]; exact Blk.new w4 4 _, by simp, fun x hx => by simp [List.getD, hx]⟩)
  rw [hg, hW5] at hmk
  have HG := Lib.hid hg
  clear hg hW5
  have hnn : ((n : Int) != (n : Int)) = false := by simp
  go_wp2_with fail
  clear hmk
  go_loopw [7] (fun iv wr => ∃ (i : Nat) (s : List Bool), i ≤ n ∧ iv = .int .i64 i ∧ Hid (Seen w4 g n d i wr s)) (fun iv _ => n - (intOf iv).toNat)
  case atStart => exact ⟨0, _, Nat.zero_le _, rfl, HS0⟩
  case round =>
    obtain ⟨i, s, hi, rfl, hS⟩ := hrel
    by_cases hlt : i < n
    · have HBw := Lib.hid (hS.out.off.below (by have := HG.out; omega))
      have hxl := SP.out.lt hlt
      have Pw := Lib.hid (P4.out.kept (HBw.out.block _ P4.out.lt))
      have p0 := natA_ints Pw.out SP.out.length hlt
      have HStep := Lib.hid (hS.out.step (by rw [SP.out.length]; exact hlt) hxl)
      have s0 : wr.cell? ⟨g, D d i, none⟩ = some (.bool false) := by
        rw [hS.out.blk.cell]
        have hf : s.getD (D d i) false = false := by
          cases hh : s.getD (D d i) false
          · rfl
          · exact absurd ((hS.out.mem _ hxl).1 hh) (not_seen SP.out hlt)
        have hl : D d i < s.length := by rw [hS.out.len]; exact hxl
        simp only [List.getD, List.getElem?_eq_getElem hl, Option.getD_some] at hf
        simp [boolA, hl, hf]
      have sf := hS.out.blk.frozen (D d i)
      have sl := hS.out.blk.lt
      obtain ⟨x, hx⟩ : ∃ x, D d i = x := ⟨_, rfl⟩
      rw [hx] at hxl p0 HStep s0 sf
      have HXI := Lib.hid hx
      clear hx
      have hi0 : (0 : Int) ≤ (i : Int) := by omega
      have hin : (i : Int) < (n : Int) := by omega
      have hx0 : (0 : Int) ≤ (x : Int) := by omega
      have hxn : (x : Int) < (n : Int) := by omega
      have hxneg : decide ((x : Int) < 0) = false := decide_eq_false (by omega)
      have hxbig : decide ((n : Int) ≤ (x : Int)) = false := decide_eq_false (by omega)
      have wi : IntKind.i64.wrap ((i : Int) + 1) = (i : Int) + 1 := IntWalk.i64_in _ (by omega)
      go_wp2_with fail
      generalize wr.setCell ⟨g, x, none⟩ (.bool true) = W6 at *
      have HB6 := Lib.hid (HStep.out.off.below (by have := HG.out; omega))
      have HBw6 := Lib.hid (HB4.out.trans (HB6.out.mono HB4.out.size))
      clear p0 s0 sf sl hS Pw hxneg hxbig
      by_cases hi1 : i = 0
      · subst hi1
        have HC : AllCells W6.drew [] := trivial
        have h00 : ¬ (0 : Int) < (0 : Int) := by omega
        refine region_free _ [0, 1, 2, 3, 4, 5, 6, 7, 8, 9, 10, 11, 12, 13, 14, 15, 16, 17, 18] 34 (by kernel_rfl) (by kernel_rfl) (by kernel_rfl) (by kernel_rfl) (by kernel_rfl) (fun _ _ _ _ _ h => h) HC ?_
        intro hne hu
        simp only [AllCells] at hu
        simp only [pick, List.take_succ_cons, List.take_zero, List.drop_succ_cons, List.drop_zero, List.cons_append, List.nil_append]
        repeat (go_big_quiet_step (fail))
        refine wpQuiet_nil ?_
        clear hne hu
        refine anyN_oneL 19 (by kernel_rfl) ?_
        simp only [List.take_succ_cons, List.take_zero, List.drop_succ_cons, List.drop_zero]
        go_wp2_with fail
        refine anyN_more [20, 21, 22, 23, 24, 25, 26, 27, 28, 29, 30, 31, 32, 33, 34, 35, 36] 16 (by kernel_rfl) (by kernel_rfl) (by kernel_rfl) (by kernel_rfl) (fun _ _ _ _ _ h => h) HC ?_
        intro hne hu
        simp only [AllCells] at hu
        simp only [pick, List.take_succ_cons, List.take_zero, List.drop_succ_cons, List.drop_zero, List.cons_append, List.nil_append]
        repeat (go_big_quiet_step (fail))
        refine wpQuiet_nil ?_
        clear hne hu
        refine anyN_oneL 37 (by kernel_rfl) ?_
        simp only [List.take_succ_cons, List.take_zero, List.drop_succ_cons, List.drop_zero]
        go_wp2_with fail
        refine And.intro (fun _ => HC) ?_
        refine anyN_more [38, 39, 40, 41, 42, 43, 44, 45, 46, 47, 48, 49, 50, 51, 52] 0 (by kernel_rfl) (by kernel_rfl) (by kernel_rfl) (by kernel_rfl) (fun _ _ _ _ _ h => h) HC ?_
        intro hne hu
        simp only [AllCells] at hu
        simp only [pick, List.take_succ_cons, List.take_zero, List.drop_succ_cons, List.drop_zero, List.cons_append, List.nil_append]
        repeat (go_big_quiet_step (fail))
        refine wpQuiet_nil ?_
        clear hne hu
        refine ⟨by kernel_rfl, ?_⟩
        clear HC
        go_wp2_with fail
        exact ⟨⟨1, _, by omega, rfl, Lib.hid (HStep.out.next ((Below.refl _ _).drew))⟩, by simp [intOf] <;> omega⟩
      · obtain ⟨j, hj⟩ : ∃ j, i = j + 1 := ⟨i - 1, by omega⟩
        have hij : (i : Int) - 1 = (j : Int) := by omega
        have hpos : (0 : Int) < (i : Int) := by omega
        have hposN : 0 < i := by omega
        have hjn : j < n := by omega
        have HPl := Lib.hid (stands_plain SP.out (show j + 1 < n by omega))
        rw [← hj, HXI.out] at HPl
        have hyl := SP.out.lt hjn
        have Pw := Lib.hid (P4.out.kept (HB6.out.block _ P4.out.lt))
        have p0 := natA_ints Pw.out SP.out.length hlt
        have p1 := natA_ints Pw.out SP.out.length hjn
        rw [HXI.out] at p0
        obtain ⟨y, hy⟩ : ∃ y, D d j = y := ⟨_, rfl⟩
        rw [hy] at hyl p1 HPl
        clear hy hj
        have hxr : x < rs.length := by rw [HN.out]; exact hxl
        have hyr : y < rs.length := by rw [HN.out]; exact hyl
        have HR1 := Lib.hid (HRows.out W6 HBw6.out)
        obtain ⟨bA, oA, rfl, g0⟩ := HR1.out.get hxr
        obtain ⟨_, _, e0, g1⟩ := HR1.out.get hyr
        cases e0
        have hro1 := Lib.hid (rowAt_get hxr)
        have hro2 := Lib.hid (rowAt_get hyr)
        have hm1 := Lib.hid (List.getElem_mem hxr)
        have hm2' := Lib.hid (List.getElem_mem hyr)
        generalize rs[x] = r1 at *
        generalize rs[y] = r2 at *
        have HL1 := Lib.hid (HR1.out.len r1 hm1.out)
        have HL2 := Lib.hid (HR1.out.len r2 hm2'.out)
        have HA12 := Lib.hid (fun W (hW : Below w.heap.size w W) => ahead_c r1.A r2.A K r1.n r1.c r2.n r2.c q ck r1.l r2.l ks W ((HRows.out W hW).row r1 hm1.out) ((HRows.out W hW).row r2 hm2'.out) (HK.out.next hW) HL1.out.1 HL2.out.1 HQ.out (HROk.out.1 r1 hm1.out).1 (HROk.out.1 r2 hm2'.out).1 HL1.out.2 HL2.out.2 (by omega))
        have HA21 := Lib.hid (fun W (hW : Below w.heap.size w W) => ahead_c r2.A r1.A K r2.n r2.c r1.n r1.c q ck r2.l r1.l ks W ((HRows.out W hW).row r2 hm2'.out) ((HRows.out W hW).row r1 hm1.out) (HK.out.next hW) HL2.out.1 HL1.out.1 HQ.out (HROk.out.1 r2 hm2'.out).1 (HROk.out.1 r1 hm1.out).1 HL2.out.2 HL1.out.2 (by omega))
        have HE1 : Hid (decide (cmpK r1.l r2.l ks < 0) = false) := Lib.hid (decide_eq_false (by have := HPl.out.1; unfold cmpAt at this; rw [hro1.out, hro2.out] at this; exact this))
        have HE2 : Hid (decide (cmpK r2.l r1.l ks < 0) = false → ¬ x < y) := Lib.hid (fun h => by have := HPl.out.2; unfold cmpAt at this; rw [hro1.out, hro2.out] at this; exact this (of_decide_eq_false h))
        obtain ⟨B1, n1, c1, l1⟩ := r1
        obtain ⟨B2, n2, c2, l2⟩ := r2
        dsimp only at HA12 HA21 HE1 HE2 g0 g1
        rw [HE1.out] at HA12
        have hy0 : (0 : Int) ≤ (y : Int) := by omega
        have hyn : (y : Int) < (n : Int) := by omega
        have hj0 : (0 : Int) ≤ (j : Int) := by omega
        have hjn' : (j : Int) < (n : Int) := by omega
        obtain ⟨bb2, hb2⟩ : ∃ bb2, decide (cmpK l2 l1 ks < 0) = bb2 := ⟨_, rfl⟩
        rw [hb2] at HA21 HE2
        clear hb2 HE1
        have HC : AllCells W6.drew [(⟨gp, i, none⟩, .int .i64 (x : Int)), (⟨gp, j, none⟩, .int .i64 (y : Int)), (⟨bA, oA + x, none⟩, .slice B1 n1 c1), (⟨bA, oA + y, none⟩, .slice B2 n2 c2)] := ⟨p0, p1, g0, g1, trivial⟩
        clear p0 p1 g0 g1
        refine region_free _ [0, 1, 2, 3, 4, 5, 6, 7, 8, 9, 10, 11, 12, 13, 14, 15, 16, 17, 18] 34 (by kernel_rfl) (by kernel_rfl) (by kernel_rfl) (by kernel_rfl) (by kernel_rfl) (fun _ _ _ _ _ h => h) HC ?_
        intro hne hu
        simp only [AllCells] at hu
        simp only [pick, List.take_succ_cons, List.take_zero, List.drop_succ_cons, List.drop_zero, List.cons_append, List.nil_append]
        repeat (go_big_quiet_step (fail))
        refine wpQuiet_nil ?_
        clear hne hu
        refine anyN_oneL 19 (by kernel_rfl) ?_
        simp only [List.take_succ_cons, List.take_zero, List.drop_succ_cons, List.drop_zero]
        go_wp2_with fail
        refine (HA12.out _ HBw6.out.drew).mono ?_
        rintro e W7 ⟨rfl, b7⟩
        have HC7 := AllCells.below HC b7
        have HS7 := Lib.hid ((HStep.out.next ((Below.refl _ W6).drew)).next b7)
        have HB7 := Lib.hid (HBw6.out.drew.trans (b7.mono HBw6.out.size))
        clear b7 HC
        go_wp2_with fail
        refine And.intro (fun _ => HC7) ?_
        refine anyN_more [20, 21, 22, 23, 24, 25, 26, 27, 28, 29, 30, 31, 32, 33, 34, 35, 36] 16 (by kernel_rfl) (by kernel_rfl) (by kernel_rfl) (by kernel_rfl) (fun _ _ _ _ _ h => h) HC7 ?_
        intro hne hu
        simp only [AllCells] at hu
        simp only [pick, List.take_succ_cons, List.take_zero, List.drop_succ_cons, List.drop_zero, List.cons_append, List.nil_append]
        repeat (go_big_quiet_step (fail))
        refine wpQuiet_nil ?_
        clear hne hu
        refine anyN_oneL 37 (by kernel_rfl) ?_
        simp only [List.take_succ_cons, List.take_zero, List.drop_succ_cons, List.drop_zero]
        go_wp2_with fail
        refine (HA21.out _ HB7.out).mono ?_
        rintro e W8 ⟨rfl, b8⟩
        have HC8 := AllCells.below HC7 b8
        have HS8 := Lib.hid (HS7.out.next b8)
        clear b8 HC7 HS7 HB7
        go_wp2_with fail
        refine And.intro (fun _ => HC8) ?_
        cases bb2
        · have hxy : ¬ (x : Int) < (y : Int) := by have := HE2.out rfl; omega
          have hxyN : ¬ x < y := HE2.out rfl
          refine anyN_more [38, 39, 40, 41, 42, 43, 44, 45, 46, 47, 48, 49, 50, 51, 52] 0 (by kernel_rfl) (by kernel_rfl) (by kernel_rfl) (by kernel_rfl) (fun _ _ _ _ _ h => h) HC8 ?_
          intro hne hu
          simp only [AllCells] at hu
          simp only [pick, List.take_succ_cons, List.take_zero, List.drop_succ_cons, List.drop_zero, List.cons_append, List.nil_append]
          repeat (go_big_quiet_step (fail))
          refine wpQuiet_nil ?_
          clear hne hu
          refine ⟨by kernel_rfl, ?_⟩
          clear HC8
          go_wp2_with fail
          exact ⟨⟨i + 1, _, by omega, by go_num, HS8⟩, by simp [intOf] <;> omega⟩
        · skip
          refine anyN_more [38, 39, 40, 41, 42, 43, 44, 45, 46, 47, 48, 49, 50, 51, 52] 0 (by kernel_rfl) (by kernel_rfl) (by kernel_rfl) (by kernel_rfl) (fun _ _ _ _ _ h => h) HC8 ?_
          intro hne hu
          simp only [AllCells] at hu
          simp only [pick, List.take_succ_cons, List.take_zero, List.drop_succ_cons, List.drop_zero, List.cons_append, List.nil_append]
          repeat (go_big_quiet_step (fail))
          refine wpQuiet_nil ?_
          clear hne hu
          refine ⟨by kernel_rfl, ?_⟩
          clear HC8
          go_wp2_with fail
          exact ⟨⟨i + 1, _, by omega, by go_num, HS8⟩, by simp [intOf] <;> omega⟩
    · obtain rfl : i = n := by omega
      have hjj : decide ((i : Int) < (i : Int)) = false := decide_eq_false (by omega)
      go_wp2_with fail
      go_ret
      exact ⟨rfl, HB4.out.trans ((hS.out.off.below (by have := HG.out; omega)).mono HB4.out.size)⟩
end Go.Proofs.Ytifdpcjfjoekmaa
