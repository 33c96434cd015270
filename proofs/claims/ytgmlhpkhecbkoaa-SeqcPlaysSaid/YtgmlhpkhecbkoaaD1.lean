/-
  counterpanelaw03.AxisBack, walked: it returns true, whatever the ids and the id. Condition: the ids can be read.
-/
import Derived.Test.YtgmlhpkhecbkoaaC8
namespace Go.Proofs.Ytgmlhpkhecbkoaa
open Go.RowKit

/-- Two axes and the id's box. -/
structure ST (w : World) (own : Tags) (qa qb : Nat) (L : List Id) (la lb : List Bool) (x y : Int) (wr : World) : Prop where
  clean : Clean w own wr
  a : AxisAt wr own 1 qa L la
  b : AxisAt wr own 2 qb L lb
  box : Box wr own w.heap.size 24 #[.int .i64 x, .int .i64 y]
section
variable {w wr w' : World} {own own' : Tags} {qa qb : Nat} {L : List Id} {la lb la' lb' : List Bool} {x y : Int}
theorem ST.trA (h : ST w own qa qb L la lb x y wr) (k : Tr own 1 wr own' w') (a' : AxisAt w' own' 1 qa L la') : ST w own' qa qb L la' lb x y w' :=
  ⟨h.clean.tr k (by decide), a', h.b.other k (by decide), h.box.tr k (by decide)⟩
theorem ST.trB (h : ST w own qa qb L la lb x y wr) (k : Tr own 2 wr own' w') (b' : AxisAt w' own' 2 qb L lb') : ST w own' qa qb L la lb' x y w' :=
  ⟨h.clean.tr k (by decide), h.a.other k (by decide), b', h.box.tr k (by decide)⟩
theorem ST.next (h : ST w own qa qb L la lb x y wr) (k : Below wr.heap.size wr w') : ST w own qa qb L la lb x y w' :=
  ⟨h.clean.next k, h.a.next k, h.b.next k, h.box.next k⟩
theorem ST.alloc (h : ST w own qa qb L la lb x y wr) (o : Obj) : ST w own qa qb L la lb x y (wr.alloc o) := h.next ((Below.refl _ _).alloc (Nat.le_refl _) o)
theorem ST.cells (h : ST w own qa qb L la lb x y wr) : wr.cell? ⟨w.heap.size, 0, none⟩ = some (.int .i64 x) ∧ wr.cell? ⟨w.heap.size, 1, none⟩ = some (.int .i64 y) := ⟨h.box.blk.cell 0, h.box.blk.cell 1⟩
end

theorem length_newL (ids : List Id) : (newL ids).length ≤ ids.length := by
  have : ∀ (l acc : List Id), (l.foldl newStep acc).length ≤ acc.length + l.length := by
    intro l
    induction l with
    | nil => simp
    | cons z r ih =>
      intro acc
      have h1 : (newStep acc z).length ≤ acc.length + 1 := by unfold newStep; split; omega; split; omega; simp
      have := ih (newStep acc z)
      simp only [List.foldl_cons, List.length_cons]; omega
  have h := this ids []
  simpa [newL] using h
theorem aliveOf_all (L : List Id) : aliveOf L (List.replicate L.length true) = L := by
  induction L with
  | nil => rfl
  | cons z r ih => simp [aliveOf, List.replicate_succ, ih]
theorem aliveOf_set (L : List Id) (i : Nat) : aliveOf L ((List.replicate L.length true).set i false) = L.eraseIdx i := by
  induction L generalizing i with
  | nil => simp [aliveOf]
  | cons z r ih =>
    cases i with
    | zero => simp [aliveOf, List.replicate_succ, aliveOf_all]
    | succ i => simp [aliveOf, List.replicate_succ, ih]

theorem atR_some {l : List Id} {k : Nat} {K : Int} {z : Id} (hK : K = (k : Int)) (h : l[k]? = some z) : atR l K = .tuple #[.agg #[.int .i64 z.1, .int .i64 z.2], .bool true] := by
  subst hK; unfold atR; rw [if_pos (by omega), Int.toNat_natCast, h]
theorem getD_replicate (n i : Nat) (h : i < n) : (List.replicate n true).getD i false = true := by
  rw [List.getD_eq_getElem?_getD, List.getElem?_replicate, if_pos h]; rfl
theorem place_all (L : List Id) (k : Id) (h : k ∈ L) : placeR L (List.replicate L.length true) k = .tuple #[.int .i64 (L.idxOf k : Int), .bool true] := by
  have hi : L.idxOf k < L.length := List.idxOf_lt_length_iff.2 h
  unfold placeR
  rw [if_pos ⟨h, getD_replicate _ _ hi⟩, List.getD_eq_getElem?_getD, aheadOf_at L _ (by simp) _ hi, Option.getD_some]
  have : aliveOf (L.take (L.idxOf k)) ((List.replicate L.length true).take (L.idxOf k)) = L.take (L.idxOf k) := by
    have e := aliveOf_all (L.take (L.idxOf k))
    rw [List.take_replicate]
    rwa [List.length_take] at e
  rw [this, List.length_take, Nat.min_eq_left (by omega)]
theorem del_all (L : List Id) (k : Id) (h : k ∈ L) : turnR L (List.replicate L.length true) k false = 0 ∧ turnL L (List.replicate L.length true) k false = (List.replicate L.length true).set (L.idxOf k) false := by
  have hi : L.idxOf k < L.length := List.idxOf_lt_length_iff.2 h
  unfold turnR turnL
  rw [if_pos h, if_pos h, getD_replicate _ _ hi]; simp
theorem del_again (L : List Id) (k : Id) (h : k ∈ L) : turnR L ((List.replicate L.length true).set (L.idxOf k) false) k false = 11 ∧ turnL L ((List.replicate L.length true).set (L.idxOf k) false) k false = (List.replicate L.length true).set (L.idxOf k) false := by
  have hi : L.idxOf k < L.length := List.idxOf_lt_length_iff.2 h
  unfold turnR turnL
  rw [if_pos h, if_pos h, List.getD_eq_getElem?_getD, List.getElem?_set_self (by simpa using hi)]
  simp
theorem rev_all (L : List Id) (k : Id) (h : k ∈ L) : turnR L ((List.replicate L.length true).set (L.idxOf k) false) k true = 0 ∧ turnL L ((List.replicate L.length true).set (L.idxOf k) false) k true = List.replicate L.length true := by
  have hi : L.idxOf k < L.length := List.idxOf_lt_length_iff.2 h
  unfold turnR turnL
  rw [if_pos h, if_pos h, List.getD_eq_getElem?_getD, List.getElem?_set_self (by simpa using hi)]
  refine ⟨by simp, ?_⟩
  rw [List.set_set]
  apply List.ext_getElem?
  intro j
  rw [List.getElem?_set]
  split
  · rename_i e; subst e; simp [hi]
  · rfl
theorem rev_again (L : List Id) (k : Id) (h : k ∈ L) : turnR L (List.replicate L.length true) k true = 11 ∧ turnL L (List.replicate L.length true) k true = List.replicate L.length true := by
  have hi : L.idxOf k < L.length := List.idxOf_lt_length_iff.2 h
  unfold turnR turnL
  rw [if_pos h, if_pos h, getD_replicate _ _ hi]
  refine ⟨by simp, ?_⟩
  apply List.ext_getElem?
  intro j
  rw [List.getElem?_set]
  split
  · rename_i e; subst e; simp [hi]
  · rfl

set_option maxRecDepth 100000 in
set_option maxHeartbeats 8000000 in
theorem back_in (A : Option Addr) (n c : Nat) (ids : List Id) (x y : Int) (w : World) (hR : IdsR w (fun _ => 0) 0 A ids) (hn : ids.length = n) (h100 : n ≤ 100) (hin : (x, y) ∈ newL ids) :
    Calls Try.prog 3 #[.slice A n c, .agg #[.int .i64 x, .int .i64 y]] w fun e w' => e = .returned (.bool true) ∧ Below w.heap.size w w' := by
  have hidx : (newL ids).idxOf (x, y) < (newL ids).length := List.idxOf_lt_length_iff.2 hin
  have hlen := Nat.le_trans (length_newL ids) (Nat.le_trans (Nat.le_of_eq hn) h100)
  have HR := Lib.hid hR
  have Hn := Lib.hid hn
  have Hin := Lib.hid hin
  clear hR hn hin
  go_enter Try.func3, Try.ntmps3
  go_wp2_with fail
  have k0 := (Clean.start w).alloc (.cells #[.int .i64 x, .int .i64 y] 24)
  have x0 := Box.new (Clean.start w).fresh 24 #[.int .i64 x, .int .i64 y]
  have r0 := HR.out.keep (w' := w.alloc (.cells #[.int .i64 x, .int .i64 y] 24)) (by simp) (Same.alloc _)
  refine (awake_c _).mono ?_
  rintro e w1 ⟨rfl, hB⟩
  have K1 := Lib.hid (k0.next hB)
  have X1 := Lib.hid (x0.next hB)
  have R1 := Lib.hid (r0.keep hB.size (Same.below hB))
  clear k0 x0 r0 hB HR
  go_wp2_with fail
  refine (new_c A n c ids w1 (fun _ => 0) 0 1 R1.out Hn.out (by simp only [maxLen]; omega) (by decide)).mono ?_
  rintro e w2 ⟨own2, qa, rfl, tr2, hqa, a2⟩
  have K2 := Lib.hid (K1.out.tr tr2 (by decide))
  have X2 := Lib.hid (X1.out.tr tr2 (by decide))
  have R2 := Lib.hid (R1.out.keep tr2.size (tr2.toSame (by decide)))
  have A2 := Lib.hid a2
  clear tr2 a2 hqa K1 X1 R1
  go_wp2_with fail
  refine (new_c A n c ids w2 own2 0 2 R2.out Hn.out (by simp only [maxLen]; omega) (by decide)).mono ?_
  rintro e w3 ⟨own3, qb, rfl, tr3, hqb, b3⟩
  have S3 : Hid (ST w own3 qa qb (newL ids) (List.replicate (newL ids).length true) (List.replicate (newL ids).length true) x y w3) := ⟨K2.out.tr tr3 (by decide), A2.out.other tr3 (by decide), b3, X2.out.tr tr3 (by decide)⟩
  clear tr3 b3 hqb K2 X2 R2 A2
  generalize newL ids = L at *
  have hpl := Lib.hid (place_all L (x, y) Hin.out)
  have hd1 := Lib.hid (del_all L (x, y) Hin.out)
  have hd2 := Lib.hid (del_again L (x, y) Hin.out)
  have hv1 := Lib.hid (rev_all L (x, y) Hin.out)
  have hv2 := Lib.hid (rev_again L (x, y) Hin.out)
  have hal := Lib.hid (aliveOf_all L)
  have hse := Lib.hid (aliveOf_set L (L.idxOf (x, y)))
  have hhas := Lib.hid (decide_eq_true Hin.out)
  obtain ⟨m, hm⟩ : ∃ m, L.length = m + 1 := ⟨L.length - 1, by omega⟩
  have hle := Lib.hid (show (L.eraseIdx (L.idxOf (x, y))).length = m by rw [List.length_eraseIdx, if_pos hidx]; omega)
  have hget := Lib.hid (fun j => List.getElem?_eraseIdx (l := L) (i := L.idxOf (x, y)) (j := j))
  have hm100 : m < 100 := by omega
  have Hm := Lib.hid hm
  generalize hii : L.idxOf (x, y) = ix at *
  generalize hlv : List.replicate L.length true = la at *
  generalize hlb : la.set ix false = lb at *
  have hixm : ix ≤ m := by omega
  clear hii hlv hlb Hin hm hlen hidx
  obtain ⟨c0, c1⟩ := S3.out.cells
  go_wp2_with fail
  refine (place_c w3 own3 1 qa L la x y S3.out.a S3.out.clean.fresh (by decide)).mono ?_
  rintro e w4 ⟨rfl, own4, tr4, a4⟩
  rw [hpl.out]
  have S4 := Lib.hid (S3.out.trA tr4 a4)
  clear tr4 a4 S3 c0 c1
  obtain ⟨c0, c1⟩ := S4.out.cells
  go_wp2_with fail
  refine (delete_c w4 own4 2 qb L la x y S4.out.b).mono ?_
  rintro e w5 ⟨rfl, own5, tr5, b5⟩
  rw [hd1.out.1]
  rw [hd1.out.2] at b5
  have S5 := Lib.hid (S4.out.trB tr5 b5)
  clear tr5 b5 S4 c0 c1
  go_wp2_with fail
  refine (len_c w5 own5 2 qb L lb S5.out.b).mono ?_
  rintro e w6 ⟨rfl, own6, tr6, b6, _⟩
  rw [hse.out, hle.out]
  have S6 := Lib.hid (S5.out.trB tr6 b6)
  clear tr6 b6 S5
  go_wp2_with fail
  refine (len_c w6 own6 1 qa L la S6.out.a).mono ?_
  rintro e w7 ⟨rfl, own7, tr7, a7, _⟩
  rw [hal.out, Hm.out]
  have S7 := Lib.hid (S6.out.trA tr7 a7)
  clear tr7 a7 S6
  obtain ⟨c0, c1⟩ := S7.out.cells
  have hne1 : ((m : Int) != ((m + 1 : Nat) : Int) - 1) = false := by simp
  have hne1' : ((m : Int) != (m : Int) + 1 - 1) = false := by simp
  have hne1'' : ((m : Int) != (m : Int)) = false := by simp
  go_wp2_with fail
  refine (has_c w7 own7 2 qb L lb x y S7.out.b).mono ?_
  rintro e w8 ⟨rfl, hB8⟩
  rw [hhas.out]
  have S8 := Lib.hid (S7.out.next hB8)
  clear hB8 S7 c0 c1
  obtain ⟨c0, c1⟩ := S8.out.cells
  go_wp2_with fail
  refine (delete_c w8 own7 2 qb L lb x y S8.out.b).mono ?_
  rintro e w9 ⟨rfl, own9, tr9, b9⟩
  rw [hd2.out.1]
  rw [hd2.out.2] at b9
  have S9 := Lib.hid (S8.out.trB tr9 b9)
  clear tr9 b9 S8 c0 c1
  go_wp2_with fail
  go_loopw [10] (fun i wr => ∃ (k : Nat) (ow : Tags), k ≤ m ∧ i = .int .i64 k ∧ ST w ow qa qb L la lb x y wr) (fun i _ => m - (intOf i).toNat)
  case atStart => exact ⟨0, own9, Nat.zero_le _, rfl, S9.out⟩
  case round =>
    clear S9
    obtain ⟨k, ow, hk, rfl, s0⟩ := hrel
    have S0 := Lib.hid s0
    clear s0
    by_cases hlt : k < m
    · obtain ⟨z, hz⟩ : ∃ z, (L.eraseIdx ix)[k]? = some z := ⟨_, List.getElem?_eq_getElem (by rw [hle.out]; exact hlt)⟩
      have hgk := hget.out k
      rw [hz] at hgk
      have Hz := Lib.hid hz
      have Hg := Lib.hid hgk
      clear hz hgk
      obtain ⟨z1, z2⟩ := z
      have hzz : ideq z1 z2 z1 z2 = true := ideq_true.2 ⟨rfl, rfl⟩
      by_cases hge : ix ≤ k
      · go_wp2_with fail
        refine (len_c wr ow 2 qb L lb S0.out.b).mono ?_
        rintro e v1 ⟨rfl, ow1, tr1, b1, _⟩
        rw [hse.out, hle.out]
        have S1 := Lib.hid (S0.out.trB tr1 b1)
        clear tr1 b1 S0
        go_wp2_with fail
        refine (at_c v1 ow1 2 qb L lb k S1.out.b S1.out.clean.fresh (by decide)).mono ?_
        rintro e v2 ⟨rfl, ow2, tr2, b2⟩
        rw [hse.out, atR_some rfl Hz.out]
        dsimp only
        have S2 := Lib.hid ((S1.out.trB tr2 b2).alloc (.cells #[.int .i64 z1, .int .i64 z2] 24))
        have X2 := Lib.hid (Box.new (S1.out.trB tr2 b2).clean.fresh 24 #[.int .i64 z1, .int .i64 z2])
        clear tr2 b2 S1
        go_wp2_with fail
        refine (at_c _ ow2 1 qa L la _ S2.out.a S2.out.clean.fresh (by decide)).mono ?_
        rintro e v3 ⟨rfl, ow3, tr3, a3⟩
        rw [hal.out, atR_some (k := k + 1) (z := (z1, z2)) (by omega) (by have := Hg.out; rw [if_neg (by omega)] at this; exact this.symm)]
        dsimp only
        have S3 := Lib.hid ((S2.out.trA tr3 a3).alloc (.cells #[.int .i64 z1, .int .i64 z2] 24))
        have X3 := Lib.hid ((X2.out.tr tr3 (by decide)).alloc (.cells #[.int .i64 z1, .int .i64 z2] 24))
        clear tr3 a3 S2 X2
        have e1 := X3.out.blk.cell 0
        have e2 := X3.out.blk.cell 1
        have e3 := X3.out.blk.lt
        simp at e1 e2 e3
        go_wp2_with fail
        exact ⟨⟨k + 1, ow3, by omega, by go_num, S3.out⟩, by simp [intOf]; omega⟩
      · go_wp2_with fail
        refine (len_c wr ow 2 qb L lb S0.out.b).mono ?_
        rintro e v1 ⟨rfl, ow1, tr1, b1, _⟩
        rw [hse.out, hle.out]
        have S1 := Lib.hid (S0.out.trB tr1 b1)
        clear tr1 b1 S0
        go_wp2_with fail
        refine (at_c v1 ow1 2 qb L lb k S1.out.b S1.out.clean.fresh (by decide)).mono ?_
        rintro e v2 ⟨rfl, ow2, tr2, b2⟩
        rw [hse.out, atR_some rfl Hz.out]
        dsimp only
        have S2 := Lib.hid ((S1.out.trB tr2 b2).alloc (.cells #[.int .i64 z1, .int .i64 z2] 24))
        have X2 := Lib.hid (Box.new (S1.out.trB tr2 b2).clean.fresh 24 #[.int .i64 z1, .int .i64 z2])
        clear tr2 b2 S1
        go_wp2_with fail
        refine (at_c _ ow2 1 qa L la _ S2.out.a S2.out.clean.fresh (by decide)).mono ?_
        rintro e v3 ⟨rfl, ow3, tr3, a3⟩
        rw [hal.out, atR_some (k := k) (z := (z1, z2)) rfl (by have := Hg.out; rw [if_pos (by omega)] at this; exact this.symm)]
        dsimp only
        have S3 := Lib.hid ((S2.out.trA tr3 a3).alloc (.cells #[.int .i64 z1, .int .i64 z2] 24))
        have X3 := Lib.hid ((X2.out.tr tr3 (by decide)).alloc (.cells #[.int .i64 z1, .int .i64 z2] 24))
        clear tr3 a3 S2 X2
        have e1 := X3.out.blk.cell 0
        have e2 := X3.out.blk.cell 1
        have e3 := X3.out.blk.lt
        simp at e1 e2 e3
        go_wp2_with fail
        exact ⟨⟨k + 1, ow3, by omega, by go_num, S3.out⟩, by simp [intOf]; omega⟩
    · have hkm : m ≤ k := by omega
      go_wp2_with fail
      refine (len_c wr ow 2 qb L lb S0.out.b).mono ?_
      rintro e v1 ⟨rfl, ow1, tr1, b1, _⟩
      rw [hse.out, hle.out]
      have S1 := Lib.hid (S0.out.trB tr1 b1)
      clear tr1 b1 S0
      obtain ⟨c0, c1⟩ := S1.out.cells
      go_wp2_with fail
      refine (revive_c v1 ow1 2 qb L lb x y S1.out.b).mono ?_
      rintro e v2 ⟨rfl, ow2, tr2, b2⟩
      rw [hv1.out.1]
      rw [hv1.out.2] at b2
      have S2 := Lib.hid (S1.out.trB tr2 b2)
      clear tr2 b2 S1 c0 c1
      obtain ⟨c0, c1⟩ := S2.out.cells
      go_wp2_with fail
      refine (revive_c v2 ow2 2 qb L la x y S2.out.b).mono ?_
      rintro e v3 ⟨rfl, ow3, tr3, b3⟩
      rw [hv2.out.1]
      rw [hv2.out.2] at b3
      have S3 := Lib.hid (S2.out.trB tr3 b3)
      clear tr3 b3 S2 c0 c1
      go_wp2_with fail
      refine (len_c v3 ow3 2 qb L la S3.out.b).mono ?_
      rintro e v4 ⟨rfl, ow4, tr4, b4, _⟩
      rw [hal.out]
      have S4 := Lib.hid (S3.out.trB tr4 b4)
      clear tr4 b4 S3
      go_wp2_with fail
      refine (len_c v4 ow4 1 qa L la S4.out.a).mono ?_
      rintro e v5 ⟨rfl, ow5, tr5, a5, _⟩
      rw [hal.out]
      have S5 := Lib.hid (S4.out.trA tr5 a5)
      clear tr5 a5 S4
      have hll : ((L.length : Int) != (L.length : Int)) = false := by simp
      have hL101 : L.length ≤ 100 := by rw [Hm.out]; omega
      go_wp2_with fail
      obtain ⟨wo, rfl⟩ : ∃ wo : World, wo = wr := ⟨_, rfl⟩
      go_loopw [16] (fun i wr => ∃ (k : Nat) (ow : Tags), k ≤ L.length ∧ i = .int .i64 k ∧ ST w ow qa qb L la la x y wr) (fun i _ => L.length - (intOf i).toNat)
      case atStart => exact ⟨0, ow5, Nat.zero_le _, rfl, S5.out⟩
      case round =>
        clear S5
        obtain ⟨k, ow, hk, rfl, s0⟩ := hrel
        have S0 := Lib.hid s0
        clear s0
        by_cases hlt : k < L.length
        · obtain ⟨z, hz⟩ : ∃ z, L[k]? = some z := ⟨_, List.getElem?_eq_getElem hlt⟩
          have Hz := Lib.hid hz
          clear hz
          obtain ⟨z1, z2⟩ := z
          have hzz : ideq z1 z2 z1 z2 = true := ideq_true.2 ⟨rfl, rfl⟩
          go_wp2_with fail
          refine (len_c wr ow 1 qa L la S0.out.a).mono ?_
          rintro e v1 ⟨rfl, ow1, tr1, a1, _⟩
          rw [hal.out]
          have S1 := Lib.hid (S0.out.trA tr1 a1)
          clear tr1 a1 S0
          go_wp2_with fail
          refine (at_c v1 ow1 1 qa L la k S1.out.a S1.out.clean.fresh (by decide)).mono ?_
          rintro e v2 ⟨rfl, ow2, tr2, a2⟩
          rw [hal.out, atR_some rfl Hz.out]
          dsimp only
          have S2 := Lib.hid ((S1.out.trA tr2 a2).alloc (.cells #[.int .i64 z1, .int .i64 z2] 24))
          have X2 := Lib.hid (Box.new (S1.out.trA tr2 a2).clean.fresh 24 #[.int .i64 z1, .int .i64 z2])
          clear tr2 a2 S1
          go_wp2_with fail
          refine (at_c _ ow2 2 qb L la _ S2.out.b S2.out.clean.fresh (by decide)).mono ?_
          rintro e v3 ⟨rfl, ow3, tr3, b3⟩
          rw [hal.out, atR_some rfl Hz.out]
          dsimp only
          have S3 := Lib.hid ((S2.out.trB tr3 b3).alloc (.cells #[.int .i64 z1, .int .i64 z2] 24))
          have X3 := Lib.hid ((X2.out.tr tr3 (by decide)).alloc (.cells #[.int .i64 z1, .int .i64 z2] 24))
          clear tr3 b3 S2 X2
          have e1 := X3.out.blk.cell 0
          have e2 := X3.out.blk.cell 1
          have e3 := X3.out.blk.lt
          simp at e1 e2 e3
          go_wp2_with fail
          exact ⟨⟨k + 1, ow3, by omega, by go_num, S3.out⟩, by simp [intOf]; omega⟩
        · have hkl : L.length ≤ k := by omega
          go_wp2_with fail
          refine (len_c wr ow 1 qa L la S0.out.a).mono ?_
          rintro e v1 ⟨rfl, ow1, tr1, a1, _⟩
          rw [hal.out]
          have S1 := Lib.hid (S0.out.trA tr1 a1)
          clear tr1 a1 S0
          go_wp2_with fail
          go_ret
          exact ⟨rfl, S1.out.clean.below⟩
end Go.Proofs.Ytgmlhpkhecbkoaa
