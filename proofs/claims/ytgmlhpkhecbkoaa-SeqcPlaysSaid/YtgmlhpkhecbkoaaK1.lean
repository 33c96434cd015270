/-
  counterpanelaw03.AxisPuts, walked: it returns true, whatever the ids, the neighbour and the id. Condition: the ids can be read.
-/
import Derived.Test.YtgmlhpkhecbkoaaJ3
import Derived.Test.YtgmlhpkhecbkoaaD1
namespace Go.Proofs.Ytgmlhpkhecbkoaa
open Go.RowKit

/-- Two axes and the two ids' boxes. -/
structure SP (w : World) (own : Tags) (qa qb : Nat) (L M : List Id) (la lb : List Bool) (b1 b2 x y : Int) (wr : World) : Prop where
  clean : Clean w own wr
  a : AxisAt wr own 1 qa L la
  b : AxisAt wr own 2 qb M lb
  bx : Box wr own w.heap.size 24 #[.int .i64 b1, .int .i64 b2]
  ix : Box wr own (w.heap.size + 1) 24 #[.int .i64 x, .int .i64 y]
section
variable {w wr w' : World} {own own' : Tags} {qa qb : Nat} {L M L' M' : List Id} {la lb la' lb' : List Bool} {b1 b2 x y : Int}
theorem SP.trA (h : SP w own qa qb L M la lb b1 b2 x y wr) (k : Tr own 1 wr own' w') (a' : AxisAt w' own' 1 qa L' la') : SP w own' qa qb L' M la' lb b1 b2 x y w' :=
  ⟨h.clean.tr k (by decide), a', h.b.other k (by decide), h.bx.tr k (by decide), h.ix.tr k (by decide)⟩
theorem SP.trB (h : SP w own qa qb L M la lb b1 b2 x y wr) (k : Tr own 2 wr own' w') (b' : AxisAt w' own' 2 qb M' lb') : SP w own' qa qb L M' la lb' b1 b2 x y w' :=
  ⟨h.clean.tr k (by decide), h.a.other k (by decide), b', h.bx.tr k (by decide), h.ix.tr k (by decide)⟩
theorem SP.next (h : SP w own qa qb L M la lb b1 b2 x y wr) (k : Below wr.heap.size wr w') : SP w own qa qb L M la lb b1 b2 x y w' :=
  ⟨h.clean.next k, h.a.next k, h.b.next k, h.bx.next k, h.ix.next k⟩
theorem SP.alloc (h : SP w own qa qb L M la lb b1 b2 x y wr) (o : Obj) : SP w own qa qb L M la lb b1 b2 x y (wr.alloc o) := h.next ((Below.refl _ _).alloc (Nat.le_refl _) o)
theorem SP.cells (h : SP w own qa qb L M la lb b1 b2 x y wr) : wr.cell? ⟨w.heap.size, 0, none⟩ = some (.int .i64 b1) ∧ wr.cell? ⟨w.heap.size, 1, none⟩ = some (.int .i64 b2) ∧
    wr.cell? ⟨w.heap.size + 1, 0, none⟩ = some (.int .i64 x) ∧ wr.cell? ⟨w.heap.size + 1, 1, none⟩ = some (.int .i64 y) := ⟨h.bx.blk.cell 0, h.bx.blk.cell 1, h.ix.blk.cell 0, h.ix.blk.cell 1⟩
end

theorem putAt_rep (n i : Nat) (hi : i ≤ n) : putAt (List.replicate n true) i true = List.replicate (n + 1) true := by
  unfold putAt
  rw [List.take_replicate, List.drop_replicate, Nat.min_eq_left hi, show [true] = List.replicate 1 true from rfl, List.replicate_append_replicate, List.replicate_append_replicate]
  congr 1; omega
theorem putAt_get {α : Type} (l : List α) (i : Nat) (z : α) (hi : i ≤ l.length) (k : Nat) : (putAt l i z)[k]? = if k < i then l[k]? else if k = i then some z else l[k - 1]? := by
  unfold putAt
  have ht : (l.take i).length = i := by rw [List.length_take]; omega
  rw [List.append_assoc, List.getElem?_append, ht]
  split
  · rename_i h; rw [List.getElem?_take, if_pos h]
  · rename_i h
    rw [List.getElem?_append]
    simp only [List.length_singleton]
    split
    · rename_i h2; rw [if_pos (by omega), show k - i = 0 by omega]; rfl
    · rename_i h2; rw [if_neg (by omega), List.getElem?_drop]; congr 1; omega
theorem putAt_idxOf (l : List Id) (i : Nat) (z : Id) (hi : i ≤ l.length) (hz : z ∉ l) : (putAt l i z).idxOf z = i := by
  unfold putAt
  rw [List.append_assoc, List.idxOf_append, if_neg (fun h => hz (List.mem_of_mem_take h))]
  simp
  omega
theorem mem_putAt (l : List Id) (i : Nat) (z : Id) : z ∈ putAt l i z := by unfold putAt; simp

/-- What Insert says when it says OK. -/
theorem insR_ok {L : List Id} {b z : Id} (h : insR L b z = 0) : z ≠ (0, 0) ∧ z ∉ L ∧ (b = (0, 0) ∨ b ∈ L) ∧ L.length < 1000 ∧ insAt L b ≤ L.length ∧ insIds L b z = putAt L (insAt L b) z := by
  unfold insIds
  rw [if_pos h]
  unfold insR at h
  by_cases h1 : z = (0, 0)
  · rw [if_pos h1] at h; omega
  · rw [if_neg h1] at h
    by_cases h2 : z ∈ L
    · rw [if_pos h2] at h; omega
    · rw [if_neg h2] at h
      by_cases h3 : b ≠ (0, 0) ∧ b ∉ L
      · rw [if_pos h3] at h; omega
      · rw [if_neg h3] at h
        by_cases h4 : 1000 ≤ L.length
        · rw [if_pos h4] at h; omega
        · have hb : b = (0, 0) ∨ b ∈ L := by
            by_cases h0 : b = (0, 0)
            · exact .inl h0
            · exact .inr (Classical.byContradiction fun h5 => h3 ⟨h0, h5⟩)
          refine ⟨h1, h2, hb, by omega, ?_, rfl⟩
          unfold insAt
          split
          · omega
          · rename_i h0
            rcases hb with hb | hb
            · exact absurd hb h0
            · exact List.idxOf_lt_length_iff.2 hb

set_option maxRecDepth 100000 in
set_option maxHeartbeats 8000000 in
theorem puts_bad (A : Option Addr) (n c : Nat) (ids : List Id) (b1 b2 x y : Int) (w : World) (hR : IdsR w (fun _ => 0) 0 A ids) (hn : ids.length = n) (h100 : n ≤ 100) (hr : insR (newL ids) (b1, b2) (x, y) ≠ 0) :
    Calls Try.prog 10 #[.slice A n c, .agg #[.int .i64 b1, .int .i64 b2], .agg #[.int .i64 x, .int .i64 y]] w fun e w' => e = .returned (.bool true) ∧ Below w.heap.size w w' := by
  have hlen := Nat.le_trans (length_newL ids) (Nat.le_trans (Nat.le_of_eq hn) h100)
  have Hr := Lib.hid hr
  clear hr
  have HR := Lib.hid hR
  have Hn := Lib.hid hn
  clear hR hn
  go_enter Try.func10, Try.ntmps10
  go_wp2_with fail
  have k0 := ((Clean.start w).alloc (.cells #[.int .i64 b1, .int .i64 b2] 24)).alloc (.cells #[.int .i64 x, .int .i64 y] 24)
  have x0 := (Box.new (Clean.start w).fresh 24 #[.int .i64 b1, .int .i64 b2]).alloc (.cells #[.int .i64 x, .int .i64 y] 24)
  have y0 : Box ((w.alloc (.cells #[.int .i64 b1, .int .i64 b2] 24)).alloc (.cells #[.int .i64 x, .int .i64 y] 24)) (fun _ => 0) (w.heap.size + 1) 24 #[.int .i64 x, .int .i64 y] := by
    have := Box.new ((Clean.start w).alloc (.cells #[.int .i64 b1, .int .i64 b2] 24)).fresh 24 #[.int .i64 x, .int .i64 y]
    simpa using this
  have r0 := HR.out.keep (w' := (w.alloc (.cells #[.int .i64 b1, .int .i64 b2] 24)).alloc (.cells #[.int .i64 x, .int .i64 y] 24)) (by simp; omega) (same2 _ _)
  refine (awake_c _).mono ?_
  rintro e w1 ⟨rfl, hB⟩
  have K1 := Lib.hid (k0.next hB)
  have X1 := Lib.hid (x0.next hB)
  have Y1 := Lib.hid (y0.next hB)
  have R1 := Lib.hid (r0.keep hB.size (Same.below hB))
  clear k0 x0 y0 r0 hB HR
  go_wp2_with fail
  refine (new_c A n c ids w1 (fun _ => 0) 0 1 R1.out Hn.out (by simp only [maxLen]; omega) (by decide)).mono ?_
  rintro e w2 ⟨own2, qa, rfl, tr2, hqa, a2⟩
  have K2 := Lib.hid (K1.out.tr tr2 (by decide))
  have X2 := Lib.hid (X1.out.tr tr2 (by decide))
  have Y2 := Lib.hid (Y1.out.tr tr2 (by decide))
  have R2 := Lib.hid (R1.out.keep tr2.size (tr2.toSame (by decide)))
  have A2 := Lib.hid a2
  clear tr2 a2 hqa K1 X1 Y1 R1
  go_wp2_with fail
  refine (new_c A n c ids w2 own2 0 2 R2.out Hn.out (by simp only [maxLen]; omega) (by decide)).mono ?_
  rintro e w3 ⟨own3, qb, rfl, tr3, hqb, b3⟩
  have S3 : Hid (SP w own3 qa qb (newL ids) (newL ids) (List.replicate (newL ids).length true) (List.replicate (newL ids).length true) b1 b2 x y w3) := ⟨K2.out.tr tr3 (by decide), A2.out.other tr3 (by decide), b3, X2.out.tr tr3 (by decide), Y2.out.tr tr3 (by decide)⟩
  clear tr3 b3 hqb K2 X2 Y2 R2 A2
  generalize newL ids = L at *
  obtain ⟨c0, c1, d0, d1⟩ := S3.out.cells
  go_wp2_with fail
  refine (insert_c w3 own3 2 qb L _ b1 b2 x y S3.out.b).mono ?_
  rintro e w4 ⟨rfl, own4, tr4, b4⟩
  have eI : insIds L (b1, b2) (x, y) = L := by unfold insIds; rw [if_neg Hr.out]
  have eL : insLive L (List.replicate L.length true) (b1, b2) (x, y) = List.replicate L.length true := by unfold insLive; rw [if_neg Hr.out]
  rw [eI, eL] at b4
  have hr2 : (insR L (b1, b2) (x, y) != 0) = true := by rw [bne_iff_ne]; exact Hr.out
  generalize insR L (b1, b2) (x, y) = r at *
  have S4 := Lib.hid (S3.out.trB tr4 b4)
  clear tr4 b4 S3 c0 c1 d0 d1 eI eL
  have hal := Lib.hid (aliveOf_all L)
  generalize List.replicate L.length true = la at *
  have hll : ((L.length : Int) == (L.length : Int)) = true := by simp
  go_wp2_with fail
  refine (len_c w4 own4 2 qb L la S4.out.b).mono ?_
  rintro e w5 ⟨rfl, own5, tr5, b5, _⟩
  rw [hal.out]
  have S5 := Lib.hid (S4.out.trB tr5 b5)
  clear tr5 b5 S4
  go_wp2_with fail
  refine (len_c w5 own5 1 qa L la S5.out.a).mono ?_
  rintro e w6 ⟨rfl, own6, tr6, a6, _⟩
  rw [hal.out]
  have S6 := Lib.hid (S5.out.trA tr6 a6)
  clear tr6 a6 S5
  go_wp2_with fail
  go_ret
  exact ⟨rfl, S6.out.clean.below⟩

end Go.Proofs.Ytgmlhpkhecbkoaa
