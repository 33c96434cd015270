/-
  counterpanelaw03.AxisPuts, walked. Condition: the ids can be read.
-/
import Derived.Test.YtgmlhpkhecbkoaaK1
namespace Go.Proofs.Ytgmlhpkhecbkoaa
open Go.RowKit

set_option maxRecDepth 100000 in
set_option maxHeartbeats 8000000 in
theorem puts_zero (A : Option Addr) (n c : Nat) (ids : List Id) (b1 b2 x y : Int) (w : World) (hR : IdsR w (fun _ => 0) 0 A ids) (hn : ids.length = n) (h100 : n ≤ 100) (hr : insR (newL ids) (b1, b2) (x, y) = 0) (hb : (b1, b2) = (0, 0)) :
    Calls Try.prog 10 #[.slice A n c, .agg #[.int .i64 b1, .int .i64 b2], .agg #[.int .i64 x, .int .i64 y]] w fun e w' => e = .returned (.bool true) ∧ Below w.heap.size w w' := by
  have hlen := Nat.le_trans (length_newL ids) (Nat.le_trans (Nat.le_of_eq hn) h100)
  have Hr := Lib.hid hr
  have Hb := Lib.hid hb
  clear hr hb
  have HR := Lib.hid hR
  have Hn := Lib.hid hn
  clear hR hn
  go_enter Try.func10, Try.ntmps10
  go_wp2_with fail
  have k0 := ((Clean.start w).alloc (.cells #[.int .i64 b1, .int .i64 b2] 24)).alloc (.cells #[.int .i64 x, .int .i64 y] 24)
  have x0 := (Box.new (Clean.start w).fresh 24 #[.int .i64 b1, .int .i64 b2]).alloc (.cells #[.int .i64 x, .int .i64 y] 24)
  have y0 : Box ((w.alloc (.cells #[.int .i64 b1, .int .i64 b2] 24)).alloc (.cells #[.int .i64 x, .int .i64 y] 24)) (fun _ => 0) (w.heap.size + 1) 24 #[.int .i64 x, .int .i64 y] := by
    have := Box.new ((Clean.start w).alloc (.cells #[.int .i64 b1, .int .i64 b2] 24)).fresh 24 #[.int .i64 x, .int .i64 y]
    simpa using this
  have r0 := HR.out.keep (w' := (w.alloc (.cells #[.int .i64 b1, .int .i64 b2] 24)).alloc (.cells #[.int .i64 x, .int .i64 y] 24)) (by simp; omega) (same2 _ _)
  refine (awake_c _).mono ?_
  rintro e w1 ⟨rfl, hB⟩
  have K1 := Lib.hid (k0.next hB)
  have X1 := Lib.hid (x0.next hB)
  have Y1 := Lib.hid (y0.next hB)
  have R1 := Lib.hid (r0.keep hB.size (Same.below hB))
  clear k0 x0 y0 r0 hB HR
  go_wp2_with fail
  refine (new_c A n c ids w1 (fun _ => 0) 0 1 R1.out Hn.out (by simp only [maxLen]; omega) (by decide)).mono ?_
  rintro e w2 ⟨own2, qa, rfl, tr2, hqa, a2⟩
  have K2 := Lib.hid (K1.out.tr tr2 (by decide))
  have X2 := Lib.hid (X1.out.tr tr2 (by decide))
  have Y2 := Lib.hid (Y1.out.tr tr2 (by decide))
  have R2 := Lib.hid (R1.out.keep tr2.size (tr2.toSame (by decide)))
  have A2 := Lib.hid a2
  clear tr2 a2 hqa K1 X1 Y1 R1
  go_wp2_with fail
  refine (new_c A n c ids w2 own2 0 2 R2.out Hn.out (by simp only [maxLen]; omega) (by decide)).mono ?_
  rintro e w3 ⟨own3, qb, rfl, tr3, hqb, b3⟩
  have S3 : Hid (SP w own3 qa qb (newL ids) (newL ids) (List.replicate (newL ids).length true) (List.replicate (newL ids).length true) b1 b2 x y w3) := ⟨K2.out.tr tr3 (by decide), A2.out.other tr3 (by decide), b3, X2.out.tr tr3 (by decide), Y2.out.tr tr3 (by decide)⟩
  clear tr3 b3 hqb K2 X2 Y2 R2 A2
  generalize newL ids = L at *
  obtain ⟨c0, c1, d0, d1⟩ := S3.out.cells
  go_wp2_with fail
  refine (insert_c w3 own3 2 qb L _ b1 b2 x y S3.out.b).mono ?_
  rintro e w4 ⟨rfl, own4, tr4, b4⟩
  obtain ⟨hz0, hzL, hbL, _, hiL, eI⟩ := insR_ok Hr.out
  have eL : insLive L (List.replicate L.length true) (b1, b2) (x, y) = List.replicate (putAt L (insAt L (b1, b2)) (x, y)).length true := by unfold insLive; rw [if_pos Hr.out, putAt_rep _ _ hiL, length_putAt]
  rw [eI, eL] at b4
  rw [Hr.out]
  have hpl := place_all _ (x, y) (mem_putAt L (insAt L (b1, b2)) (x, y))
  rw [putAt_idxOf L _ _ hiL hzL] at hpl
  have Hpl := Lib.hid hpl
  have hal := Lib.hid (aliveOf_all L)
  have hbl := Lib.hid (aliveOf_all (putAt L (insAt L (b1, b2)) (x, y)))
  have hlM := Lib.hid (length_putAt L (insAt L (b1, b2)) (x, y))
  have hget := Lib.hid (putAt_get L (insAt L (b1, b2)) (x, y) hiL)
  have hi0 : insAt L (b1, b2) = 0 := by unfold insAt; rw [if_pos Hb.out]
  have hix : ((insAt L (b1, b2) : Int) != 0) = false := by rw [hi0]; rfl
  have hq : ideq b1 b2 0 0 = true := ideq_true.2 ⟨congrArg Prod.fst Hb.out, congrArg Prod.snd Hb.out⟩
  clear hi0
  have S4 := Lib.hid (S3.out.trB tr4 b4)
  generalize insAt L (b1, b2) = ix at *
  generalize putAt L ix (x, y) = M at *
  generalize List.replicate L.length true = la at *
  generalize List.replicate M.length true = lb at *
  clear tr4 b4 S3 c0 c1 d0 d1 eI eL hpl hz0 hzL hbL Hr
  obtain ⟨c0, c1, d0, d1⟩ := S4.out.cells
  go_wp2_with fail
  refine (place_c w4 own4 2 qb M lb x y S4.out.b S4.out.clean.fresh (by decide)).mono ?_
  rintro e w5 ⟨rfl, own5, tr5, b5⟩
  rw [Hpl.out]
  have S5 := Lib.hid (S4.out.trB tr5 b5)
  clear tr5 b5 S4 c0 c1 d0 d1
  obtain ⟨c0, c1, d0, d1⟩ := S5.out.cells
  obtain ⟨w6, h6⟩ : ∃ u, u = w5 := ⟨_, rfl⟩
  obtain ⟨own6, g6⟩ : ∃ u, u = own5 := ⟨_, rfl⟩
  rw [← h6, ← g6] at S5
  rw [← h6] at c0 c1 ⊢
  have S6 := S5
  clear h6 g6 S5 d0 d1
  go_wp2_with fail
  refine (len_c w6 own6 2 qb M lb S6.out.b).mono ?_
  rintro e w7 ⟨rfl, own7, tr7, b7, _⟩
  rw [hbl.out, hlM.out]
  have S7 := Lib.hid (S6.out.trB tr7 b7)
  clear tr7 b7 S6
  go_wp2_with fail
  refine (len_c w7 own7 1 qa L la S7.out.a).mono ?_
  rintro e w8 ⟨rfl, own8, tr8, a8, _⟩
  rw [hal.out]
  have S8 := Lib.hid (S7.out.trA tr8 a8)
  clear tr8 a8 S7
  have hne1 : (((L.length + 1 : Nat) : Int) != (L.length : Int) + 1) = false := by simp
  have hne2 : ((L.length : Int) + 1 != (L.length : Int) + 1) = false := by simp
  go_wp2_with fail
  go_loopw [14] (fun i wr => ∃ (k : Nat) (ow : Tags), k ≤ L.length ∧ i = .int .i64 k ∧ SP w ow qa qb L M la lb b1 b2 x y wr) (fun i _ => L.length - (intOf i).toNat)
  case atStart => exact ⟨0, own8, Nat.zero_le _, rfl, S8.out⟩
  case round =>
    clear S8
    obtain ⟨k, ow, hk, rfl, s0⟩ := hrel
    have S0 := Lib.hid s0
    clear s0
    by_cases hlt : k < L.length
    · obtain ⟨z, hz⟩ : ∃ z, L[k]? = some z := ⟨_, List.getElem?_eq_getElem hlt⟩
      have Hz := Lib.hid hz
      clear hz
      obtain ⟨z1, z2⟩ := z
      have hzz : ideq z1 z2 z1 z2 = true := ideq_true.2 ⟨rfl, rfl⟩
      go_wp2_with fail
      refine (len_c wr ow 1 qa L la S0.out.a).mono ?_
      rintro e v1 ⟨rfl, ow1, tr1, a1, _⟩
      rw [hal.out]
      have S1 := Lib.hid (S0.out.trA tr1 a1)
      clear tr1 a1 S0
      go_wp2_with fail
      refine (at_c v1 ow1 1 qa L la k S1.out.a S1.out.clean.fresh (by decide)).mono ?_
      rintro e v2 ⟨rfl, ow2, tr2, a2⟩
      rw [hal.out, atR_some rfl Hz.out]
      dsimp only
      have S2 := Lib.hid ((S1.out.trA tr2 a2).alloc (.cells #[.int .i64 z1, .int .i64 z2] 24))
      have X2 := Lib.hid (Box.new (S1.out.trA tr2 a2).clean.fresh 24 #[.int .i64 z1, .int .i64 z2])
      clear tr2 a2 S1
      by_cases hge : ix ≤ k
      · go_wp2_with fail
        refine (at_c _ ow2 2 qb M lb _ S2.out.b S2.out.clean.fresh (by decide)).mono ?_
        rintro e v3 ⟨rfl, ow3, tr3, b3⟩
        rw [hbl.out, atR_some (k := k + 1) (z := (z1, z2)) (by omega) (by rw [hget.out, if_neg (by omega), if_neg (by omega)]; exact Hz.out)]
        dsimp only
        have S3 := Lib.hid ((S2.out.trB tr3 b3).alloc (.cells #[.int .i64 z1, .int .i64 z2] 24))
        have X3 := Lib.hid ((X2.out.tr tr3 (by decide)).alloc (.cells #[.int .i64 z1, .int .i64 z2] 24))
        clear tr3 b3 S2 X2
        have e1 := X3.out.blk.cell 0
        have e2 := X3.out.blk.cell 1
        have e3 := X3.out.blk.lt
        simp at e1 e2 e3
        go_wp2_with fail
        exact ⟨⟨k + 1, ow3, by omega, by go_num, S3.out⟩, by simp [intOf]; omega⟩
      · go_wp2_with fail
        refine (at_c _ ow2 2 qb M lb _ S2.out.b S2.out.clean.fresh (by decide)).mono ?_
        rintro e v3 ⟨rfl, ow3, tr3, b3⟩
        rw [hbl.out, atR_some (k := k) (z := (z1, z2)) (by omega) (by rw [hget.out, if_pos (by omega)]; exact Hz.out)]
        dsimp only
        have S3 := Lib.hid ((S2.out.trB tr3 b3).alloc (.cells #[.int .i64 z1, .int .i64 z2] 24))
        have X3 := Lib.hid ((X2.out.tr tr3 (by decide)).alloc (.cells #[.int .i64 z1, .int .i64 z2] 24))
        clear tr3 b3 S2 X2
        have e1 := X3.out.blk.cell 0
        have e2 := X3.out.blk.cell 1
        have e3 := X3.out.blk.lt
        simp at e1 e2 e3
        go_wp2_with fail
        exact ⟨⟨k + 1, ow3, by omega, by go_num, S3.out⟩, by simp [intOf]; omega⟩
    · have hkl : L.length ≤ k := by omega
      go_wp2_with fail
      refine (len_c wr ow 1 qa L la S0.out.a).mono ?_
      rintro e v1 ⟨rfl, ow1, tr1, a1, _⟩
      rw [hal.out]
      have S1 := Lib.hid (S0.out.trA tr1 a1)
      clear tr1 a1 S0
      go_wp2_with fail
      go_ret
      exact ⟨rfl, S1.out.clean.below⟩

end Go.Proofs.Ytgmlhpkhecbkoaa
