/-
  counterpaneref02.Right: its contract. Condition: the ints fit 64 bits.
  package shape: fits, Right: their contracts. Condition: the values can be read, their ints fit 64 bits; at most 4096 of them.
  counterpaneref09.Right: its contract. Condition: the values can be read, their ints fit 64 bits; at most 4096 of them.
-/
import Derived.Test.YtccnkkffeokgcaaGreatDoorQ7
namespace Go.Proofs.YtccnkkffeokgcaaGreatDoor
open Go.RowKit
theorem tnil {t : ByteArray} : t = ⟨#[]⟩ ↔ t.toList = [] := by
  constructor
  · rintro rfl; rw [ByteArray.toList_eq]
  · intro h
    obtain ⟨d⟩ := t
    rw [ByteArray.toList_eq] at h
    congr 1
    exact Array.toList_eq_nil_iff.1 h
theorem rightV0 {m e : Int} {t : ByteArray} {b : Bool} {f : Int} : RightV ⟨0, m, e, t, b, f⟩ ↔ m = 0 ∧ e = 0 ∧ t.toList = [] ∧ b = false ∧ f = 0 := by
  rw [← rightV_kind0, veq_true, Val.mk.injEq, ← tnil]; simp
theorem rightV1 {m e : Int} {t : ByteArray} {b : Bool} {f : Int} : RightV ⟨1, m, e, t, b, f⟩ ↔ RightN m e ∧ t.toList = [] ∧ b = false ∧ f = 0 := by
  rw [← rightV_kind1, veq_true, Val.mk.injEq, ← tnil]; simp
theorem rightV2 {m e : Int} {t : ByteArray} {b : Bool} {f : Int} : RightV ⟨2, m, e, t, b, f⟩ ↔ m = 0 ∧ e = 0 ∧ t.size ≤ 255 ∧ b = false ∧ f = 0 := by
  rw [← rightV_kind2, veq_true]
  split
  · rename_i h; rw [Val.mk.injEq]; simp [h]
  · rename_i h; rw [badV_in (by omega), Val.mk.injEq]; simp [h]
theorem rightV3 {m e : Int} {t : ByteArray} {b : Bool} {f : Int} : RightV ⟨3, m, e, t, b, f⟩ ↔ m = 0 ∧ e = 0 ∧ t.toList = [] ∧ f = 0 := by
  rw [← rightV_kind3, veq_true, Val.mk.injEq, ← tnil]; simp
theorem rightV4 {m e : Int} {t : ByteArray} {b : Bool} {f : Int} : RightV ⟨4, m, e, t, b, f⟩ ↔ m = 0 ∧ e = 0 ∧ t.toList = [] ∧ b = false ∧ 1 ≤ f ∧ f ≤ 9 := by
  rw [← rightV_kind4, veq_true]
  by_cases h : 1 ≤ f ∧ f ≤ 9
  · rw [badV_in h, Val.mk.injEq, ← tnil]; simp [h]
  · rw [badV_out h, Val.mk.injEq]
    simp only [h, and_false, iff_false, not_and]
    intro _ _ _ _ _ hf
    subst hf
    exact h (by omega)
set_option maxRecDepth 100000 in
set_option maxHeartbeats 4000000 in
theorem rright_k0 (w : World) (m ex : Int) (t : ByteArray) (b : Bool) (f : Int) :
    Calls Tryz.prog 31 #[.agg #[.int .i64 0, .int .i64 m, .int .i64 ex, .string t, .bool b, .int .i64 f]] w (RgV w ⟨0, m, ex, t, b, f⟩) := by
  go_enter Tryz.func31, Tryz.ntmps31
  go_wp2_with fail
  all_goals go_ret
  all_goals refine ⟨_, rfl, ?_, (Below.refl _ w).alloc (Nat.le_refl _) _⟩
  all_goals rw [rightV0]
  all_goals (first | (simp [*]; done) | (simp_all; done) | (simp_all; omega))
set_option maxRecDepth 100000 in
set_option maxHeartbeats 4000000 in
theorem rright_k2 (w : World) (m ex : Int) (t : ByteArray) (b : Bool) (f : Int) :
    Calls Tryz.prog 31 #[.agg #[.int .i64 2, .int .i64 m, .int .i64 ex, .string t, .bool b, .int .i64 f]] w (RgV w ⟨2, m, ex, t, b, f⟩) := by
  go_enter Tryz.func31, Tryz.ntmps31
  go_wp2_with fail
  all_goals go_ret
  all_goals refine ⟨_, rfl, ?_, (Below.refl _ w).alloc (Nat.le_refl _) _⟩
  all_goals rw [rightV2]
  all_goals (first | (simp [*]; done) | (simp_all; done) | (simp_all; omega))
set_option maxRecDepth 100000 in
set_option maxHeartbeats 4000000 in
theorem rright_k3 (w : World) (m ex : Int) (t : ByteArray) (b : Bool) (f : Int) :
    Calls Tryz.prog 31 #[.agg #[.int .i64 3, .int .i64 m, .int .i64 ex, .string t, .bool b, .int .i64 f]] w (RgV w ⟨3, m, ex, t, b, f⟩) := by
  go_enter Tryz.func31, Tryz.ntmps31
  go_wp2_with fail
  all_goals go_ret
  all_goals refine ⟨_, rfl, ?_, (Below.refl _ w).alloc (Nat.le_refl _) _⟩
  all_goals rw [rightV3]
  all_goals (first | (simp [*]; done) | (simp_all; done) | (simp_all; omega))
set_option maxRecDepth 100000 in
set_option maxHeartbeats 4000000 in
theorem rright_k4 (w : World) (m ex : Int) (t : ByteArray) (b : Bool) (f : Int) :
    Calls Tryz.prog 31 #[.agg #[.int .i64 4, .int .i64 m, .int .i64 ex, .string t, .bool b, .int .i64 f]] w (RgV w ⟨4, m, ex, t, b, f⟩) := by
  go_enter Tryz.func31, Tryz.ntmps31
  go_wp2_with fail
  all_goals go_ret
  all_goals refine ⟨_, rfl, ?_, (Below.refl _ w).alloc (Nat.le_refl _) _⟩
  all_goals rw [rightV4]
  all_goals (first | (simp [*]; done) | (simp_all; done) | (simp_all; omega))
set_option maxRecDepth 100000 in
set_option maxHeartbeats 4000000 in
theorem rright_kk (w : World) (m ex : Int) (t : ByteArray) (b : Bool) (f : Int) (k : Int) (k0 : ¬k = 0) (k1 : ¬k = 1) (k2 : ¬k = 2) (k3 : ¬k = 3) (k4 : ¬k = 4) :
    Calls Tryz.prog 31 #[.agg #[.int .i64 k, .int .i64 m, .int .i64 ex, .string t, .bool b, .int .i64 f]] w (RgV w ⟨k, m, ex, t, b, f⟩) := by
  have HI := Lib.hid (rightV_other (m := m) (e := ex) (t := t) (b := b) (f := f) k0 k1 k2 k3 k4)
  go_enter Tryz.func31, Tryz.ntmps31
  go_wp2_with fail
  all_goals go_ret
  all_goals exact ⟨false, by first | rfl | simp_all, ⟨(fun h => by cases h), fun h => absurd h HI.out⟩, (Below.refl _ w).alloc (Nat.le_refl _) _⟩
set_option maxRecDepth 100000 in
set_option maxHeartbeats 4000000 in
theorem rright_k1 (w : World) (m ex : Int) (t : ByteArray) (b : Bool) (f : Int) (h1 : -9223372036854775808 ≤ m) (h2 : m ≤ 9223372036854775807) (h3 : -9223372036854775808 ≤ ex) (h4 : ex ≤ 9223372036854775807) :
    Calls Tryz.prog 31 #[.agg #[.int .i64 1, .int .i64 m, .int .i64 ex, .string t, .bool b, .int .i64 f]] w (RgV w ⟨1, m, ex, t, b, f⟩) := by
  have HR := Lib.hid (show ∀ m' ex' : Int, m' = m → ex' = ex → ∀ w', Calls Tryz.prog 72 #[.agg #[.int .i64 m', .int .i64 ex']] w' (RgtP w' m ex) from fun m' ex' e1 e2 w' => by subst e1; subst e2; exact rright_c _ _ h1 h2 h3 h4 w')
  clear h1 h2 h3 h4
  go_enter Tryz.func31, Tryz.ntmps31
  go_wp2_with fail
  all_goals first
    | (go_ret
       refine ⟨false, rfl, ?_, (Below.refl _ w).alloc (Nat.le_refl _) _⟩
       rw [rightV1]
       first | (simp [*]; done) | (simp_all; done))
    | (refine Calls.mono (HR.out _ _ (by omega) (by omega) _) ?_
       rintro e w1 ⟨b1, rfl, r1, B1⟩
       have HB1 := Lib.hid (show Below w.heap.size w w1 from ((Below.refl _ w).alloc (Nat.le_refl _) _).trans (B1.mono (by simp)))
       have HR1 := Lib.hid r1
       clear r1 B1
       go_wp2_with fail
       go_ret
       refine ⟨b1, rfl, ?_, HB1.out⟩
       rw [rightV1, HR1.out]
       first | (simp [*]; done) | (simp_all; done))
theorem rrightV_c (x : Val) (h1 : -9223372036854775808 ≤ x.mant) (h2 : x.mant ≤ 9223372036854775807) (h3 : -9223372036854775808 ≤ x.exp) (h4 : x.exp ≤ 9223372036854775807) (w : World) : Calls Tryz.prog 31 #[.agg x.cs.toArray] w (RgV w x) := by
  obtain ⟨k, m, ex, t, b, f⟩ := x
  by_cases k0 : k = 0
  · subst k0; exact rright_k0 w m ex t b f
  by_cases k1 : k = 1
  · subst k1; exact rright_k1 w m ex t b f h1 h2 h3 h4
  by_cases k2 : k = 2
  · subst k2; exact rright_k2 w m ex t b f
  by_cases k3 : k = 3
  · subst k3; exact rright_k3 w m ex t b f
  by_cases k4 : k = 4
  · subst k4; exact rright_k4 w m ex t b f
  exact rright_kk w m ex t b f k k0 k1 k2 k3 k4

def FitP (w : World) (r c : Int) (x : Ending) (w' : World) : Prop := (∃ b : Bool, x = .returned (.bool b) ∧ (b = true ↔ 1 ≤ r ∧ 1 ≤ c ∧ r ≤ 4096 ∧ r * c ≤ 4096)) ∧ w' = w
theorem fits_c (r c : Int) (w : World) : Calls Tryz.prog 73 #[.int .i64 r, .int .i64 c] w (FitP w r c) := by
  by_cases h1 : 1 ≤ r
  · by_cases h2 : 1 ≤ c
    · by_cases h3 : r ≤ 4096
      · have hr0 : ¬ r = 0 := by omega
        have HD := Lib.hid (show c ≤ 4096 / r ↔ 1 ≤ r ∧ 1 ≤ c ∧ r ≤ 4096 ∧ r * c ≤ 4096 by
          rw [Int.le_ediv_iff_mul_le (by omega), Int.mul_comm]
          exact ⟨fun h => ⟨h1, h2, h3, h⟩, fun h => h.2.2.2⟩)
        go_enter Tryz.func73, Tryz.ntmps73
        go_wp2_with fail
        go_ret
        exact ⟨⟨_, rfl, by rw [decide_eq_true_iff]; exact HD.out⟩, rfl⟩
      · have H3 := Lib.hid h3
        go_enter Tryz.func73, Tryz.ntmps73
        go_wp2_with fail
        go_ret
        exact ⟨⟨false, rfl, ⟨(fun h => by cases h), fun h => by have := H3.out; omega⟩⟩, rfl⟩
    · have H2 := Lib.hid h2
      go_enter Tryz.func73, Tryz.ntmps73
      go_wp2_with fail
      go_ret
      exact ⟨⟨false, rfl, ⟨(fun h => by cases h), fun h => by have := H2.out; omega⟩⟩, rfl⟩
  · have H1 := Lib.hid h1
    go_enter Tryz.func73, Tryz.ntmps73
    go_wp2_with fail
    go_ret
    exact ⟨⟨false, rfl, ⟨(fun h => by cases h), fun h => by have := H1.out; omega⟩⟩, rfl⟩
/-- An array that may be. -/
structure RightA (r c : Int) (l : List Val) : Prop where
  r1 : 1 ≤ r
  c1 : 1 ≤ c
  len : r * c = l.length
  all : ∀ v ∈ l, RightV v
def FitsV (v : Val) : Prop := -9223372036854775808 ≤ v.mant ∧ v.mant ≤ 9223372036854775807 ∧ -9223372036854775808 ≤ v.exp ∧ v.exp ≤ 9223372036854775807
def RgA (w : World) (r c : Int) (l : List Val) (e : Ending) (w' : World) : Prop := ∃ b : Bool, e = .returned (.bool b) ∧ (b = true ↔ RightA r c l) ∧ Below w.heap.size w w'
theorem RightA.le {r c : Int} {l : List Val} (h : RightA r c l) (hl : l.length ≤ 4096) : 1 ≤ r ∧ 1 ≤ c ∧ r ≤ 4096 ∧ r * c ≤ 4096 := by
  have h1 := h.r1
  have h2 := h.c1
  have h3 := h.len
  have h4 : r * 1 ≤ r * c := Int.mul_le_mul_of_nonneg_left h2 (by omega)
  refine ⟨h1, h2, by omega, by omega⟩
set_option maxRecDepth 100000 in
set_option maxHeartbeats 4000000 in
theorem shright_c (r c : Int) (A : Option Addr) (n ca : Nat) (l : List Val) (w : World) (hA : ManyR Val.cs 6 w A l) (hn : l.length = n) (hm : n ≤ 4096) (hf : ∀ v ∈ l, FitsV v) :
    Calls Tryz.prog 33 #[.agg #[.int .i64 r, .int .i64 c, .slice A n ca]] w (RgA w r c l) := by
  have HB := Lib.hid ((Below.refl _ w).alloc (Nat.le_refl _) (.cells #[.int .i64 r, .int .i64 c, .slice A n ca] 24))
  have bX := Lib.hid (Blk.new w 24 #[.int .i64 r, .int .i64 c, .slice A n ca])
  have HA := Lib.hid hA
  have HN := Lib.hid hn
  have HF := Lib.hid hf
  clear hA hn hf
  go_enter Tryz.func33, Tryz.ntmps33
  go_wp2_with fail
  generalize w.alloc (.cells #[.int .i64 r, .int .i64 c, .slice A n ca] 24) = V at *
  refine (fits_c r c V).mono ?_
  rintro e w1 ⟨⟨b1, rfl, r1⟩, rfl⟩
  have HR1 := Lib.hid r1
  clear r1
  have c0 := bX.out.cell 0
  have c1 := bX.out.cell 1
  have c2 := bX.out.cell 2
  simp only [List.getElem?_toArray, List.getElem?_cons_zero, List.getElem?_cons_succ] at c0 c1 c2
  cases b1
  · go_wp2_with fail
    go_ret
    exact ⟨false, rfl, ⟨(fun h => by cases h), fun h => absurd (HR1.out.2 (h.le (by rw [HN.out]; exact hm))) (by simp)⟩, HB.out⟩
  · have hh := HR1.out.1 rfl
    have hp : 0 < r * c := Int.mul_pos (by omega) (by omega)
    obtain ⟨q, hq⟩ : ∃ q, r * c = q := ⟨_, rfl⟩
    have s1 : IntKind.i64.wrap (r * c) = q := by rw [hq]; exact IntWalk.i64_in _ (by omega)
    have HQ := Lib.hid hq
    have HH := Lib.hid hh
    clear hq hp hh
    by_cases hlen : (n : Int) = q
    · have hb : ((n : Int) != q) = false := by simp [hlen]
      have HL := Lib.hid hlen
      clear hlen
      go_wp2_with fail
      clear c0 c1 c2
      go_loopw [24] (fun i wr => ∃ j : Nat, j ≤ n ∧ i = .int .i64 j ∧ Hid (∀ v ∈ l.take j, RightV v) ∧ Hid (Below w.heap.size w wr) ∧ Hid (Blk wr w.heap.size 24 #[.int .i64 r, .int .i64 c, .slice A n ca])) (fun i _ => n - (intOf i).toNat)
      case atStart => exact ⟨0, Nat.zero_le _, rfl, Lib.hid (fun r hr => by simp at hr), HB, bX⟩
      case round =>
        obtain ⟨j, hj, rfl, hc, hb2, hbx⟩ := hrel
        have g := hbx.out.cell 2
        simp only [List.getElem?_toArray, List.getElem?_cons_zero, List.getElem?_cons_succ] at g
        by_cases hlt : j < n
        · have hjl : j < l.length := by rw [HN.out]; exact hlt
          obtain ⟨bA, oA, rfl, lA, hcA⟩ := (HA.out.next hb2.out) (fun e => by rw [e] at hjl; simp at hjl)
          have gv := hcA j hjl
          have hmem := Lib.hid (List.getElem_mem hjl)
          have htk := Lib.hid (show l.take (j + 1) = l.take j ++ [l[j]] from by rw [List.take_succ_eq_append_getElem hjl])
          clear hcA
          generalize l[j] = z at *
          have HZ := Lib.hid (HF.out _ hmem.out)
          have HRt := Lib.hid (fun W => vright_c z HZ.out.1 HZ.out.2.1 HZ.out.2.2.1 HZ.out.2.2.2 W)
          have hzc : z.cs = [.int .i64 z.kind, .int .i64 z.mant, .int .i64 z.exp, .string z.text, .bool z.truth, .int .i64 z.fault] := rfl
          obtain ⟨vk, m, ex, t, b, f⟩ := z
          have c0 := gv 0 _ rfl
          have c1 := gv 1 _ rfl
          have c2 := gv 2 _ rfl
          have c3 := gv 3 _ rfl
          have c4 := gv 4 _ rfl
          have c5 := gv 5 _ rfl
          rw [Nat.add_zero] at c0
          clear gv hzc
          have hj0 : (0 : Int) ≤ (j : Int) := by omega
          have hjn : (j : Int) < (n : Int) := by omega
          have wj : IntKind.i64.wrap ((j : Int) + 1) = (j : Int) + 1 := IntWalk.i64_in _ (by omega)
          go_wp2_with fail
          refine (HRt.out wr).mono ?_
          rintro e w1 ⟨b1, rfl, r1, B1⟩
          have HB1 := Lib.hid (hb2.out.trans (B1.mono hb2.out.size))
          have HX1 := Lib.hid (hbx.out.kept (B1.block _ hbx.out.lt))
          have HR1 := Lib.hid r1
          clear B1 r1 g c0 c1 c2 c3 c4 c5
          cases b1
          · go_wp2_with fail
            go_ret
            exact ⟨false, rfl, ⟨(fun h => by cases h), fun h => absurd (HR1.out.2 (h.all _ hmem.out)) (by simp)⟩, HB1.out⟩
          · go_wp2_with fail
            go_roundw
            case rel =>
              refine ⟨j + 1, by omega, by go_num, Lib.hid (fun v hv => ?_), HB1, HX1⟩
              rw [htk.out, List.mem_append] at hv
              rcases hv with hv | hv
              · exact hc.out v hv
              · rw [List.mem_singleton.1 hv]
                exact HR1.out.1 (by first | trivial | rfl)
            case measure => simp [intOf]; omega
        · obtain rfl : j = n := by omega
          have hjj : decide ((j : Int) < (j : Int)) = false := decide_eq_false (by omega)
          clear g
          go_wp2_with fail
          go_ret
          refine ⟨true, rfl, ⟨fun _ => ⟨HH.out.1, HH.out.2.1, by rw [HQ.out, HN.out]; exact HL.out.symm, fun v hv => hc.out v (by rw [List.take_of_length_le (by rw [HN.out]; exact Nat.le_refl _)]; exact hv)⟩, fun _ => rfl⟩, hb2.out⟩
    · have hb : ((n : Int) != q) = true := by simp [hlen]
      have HL := Lib.hid hlen
      clear hlen
      go_wp2_with fail
      go_ret
      exact ⟨false, rfl, ⟨(fun h => by cases h), fun h => absurd (by have := h.len; rw [HQ.out, HN.out] at this; exact this.symm) HL.out⟩, HB.out⟩

set_option maxRecDepth 100000 in
set_option maxHeartbeats 4000000 in
theorem r09_r0 (r c : Int) (A : Option Addr) (n ca : Nat) (l : List Val) (w : World) (hn : l.length = n) (hm : n ≤ 4096) (h : r < 1) :
    Calls Tryz.prog 18 #[.agg #[.int .i64 r, .int .i64 c, .slice A n ca]] w (RgA w r c l) := by
  have HB := Lib.hid ((Below.refl _ w).alloc (Nat.le_refl _) (.cells #[.int .i64 r, .int .i64 c, .slice A n ca] 24))
  have HK := Lib.hid (show ¬ RightA r c l from fun h => by
    have := h.le (by rw [hn]; exact hm)
    have h3 := h.len
    rw [hn] at h3
    obtain ⟨a1, a2, a3, a4⟩ := this
    have a5 : 1 * c ≤ r * c := Int.mul_le_mul_of_nonneg_right a1 (by omega)
    omega)
  go_enter Tryz.func18, Tryz.ntmps18
  go_wp2_with fail
  go_ret
  exact ⟨false, rfl, ⟨(fun h => by cases h), fun h => absurd h HK.out⟩, HB.out⟩
set_option maxRecDepth 100000 in
set_option maxHeartbeats 4000000 in
theorem r09_c0 (r c : Int) (A : Option Addr) (n ca : Nat) (l : List Val) (w : World) (hn : l.length = n) (hm : n ≤ 4096) (h1 : 1 ≤ r) (h : c < 1) :
    Calls Tryz.prog 18 #[.agg #[.int .i64 r, .int .i64 c, .slice A n ca]] w (RgA w r c l) := by
  have HB := Lib.hid ((Below.refl _ w).alloc (Nat.le_refl _) (.cells #[.int .i64 r, .int .i64 c, .slice A n ca] 24))
  have HK := Lib.hid (show ¬ RightA r c l from fun h => by
    have := h.le (by rw [hn]; exact hm)
    have h3 := h.len
    rw [hn] at h3
    obtain ⟨a1, a2, a3, a4⟩ := this
    have a5 : 1 * c ≤ r * c := Int.mul_le_mul_of_nonneg_right a1 (by omega)
    omega)
  go_enter Tryz.func18, Tryz.ntmps18
  go_wp2_with fail
  go_ret
  exact ⟨false, rfl, ⟨(fun h => by cases h), fun h => absurd h HK.out⟩, HB.out⟩
set_option maxRecDepth 100000 in
set_option maxHeartbeats 4000000 in
theorem r09_r1 (r c : Int) (A : Option Addr) (n ca : Nat) (l : List Val) (w : World) (hn : l.length = n) (hm : n ≤ 4096) (h1 : 1 ≤ r) (h2 : 1 ≤ c) (h : 4096 < r) :
    Calls Tryz.prog 18 #[.agg #[.int .i64 r, .int .i64 c, .slice A n ca]] w (RgA w r c l) := by
  have HB := Lib.hid ((Below.refl _ w).alloc (Nat.le_refl _) (.cells #[.int .i64 r, .int .i64 c, .slice A n ca] 24))
  have HK := Lib.hid (show ¬ RightA r c l from fun h => by
    have := h.le (by rw [hn]; exact hm)
    have h3 := h.len
    rw [hn] at h3
    obtain ⟨a1, a2, a3, a4⟩ := this
    have a5 : 1 * c ≤ r * c := Int.mul_le_mul_of_nonneg_right a1 (by omega)
    omega)
  go_enter Tryz.func18, Tryz.ntmps18
  go_wp2_with fail
  go_ret
  exact ⟨false, rfl, ⟨(fun h => by cases h), fun h => absurd h HK.out⟩, HB.out⟩
set_option maxRecDepth 100000 in
set_option maxHeartbeats 4000000 in
theorem r09_c1 (r c : Int) (A : Option Addr) (n ca : Nat) (l : List Val) (w : World) (hn : l.length = n) (hm : n ≤ 4096) (h1 : 1 ≤ r) (h2 : 1 ≤ c) (h3 : r ≤ 4096) (h : 4096 < c) :
    Calls Tryz.prog 18 #[.agg #[.int .i64 r, .int .i64 c, .slice A n ca]] w (RgA w r c l) := by
  have HB := Lib.hid ((Below.refl _ w).alloc (Nat.le_refl _) (.cells #[.int .i64 r, .int .i64 c, .slice A n ca] 24))
  have HK := Lib.hid (show ¬ RightA r c l from fun h => by
    have := h.le (by rw [hn]; exact hm)
    have h3 := h.len
    rw [hn] at h3
    obtain ⟨a1, a2, a3, a4⟩ := this
    have a5 : 1 * c ≤ r * c := Int.mul_le_mul_of_nonneg_right a1 (by omega)
    omega)
  go_enter Tryz.func18, Tryz.ntmps18
  go_wp2_with fail
  go_ret
  exact ⟨false, rfl, ⟨(fun h => by cases h), fun h => absurd h HK.out⟩, HB.out⟩
set_option maxRecDepth 100000 in
set_option maxHeartbeats 4000000 in
theorem r09_q1 (r c : Int) (A : Option Addr) (n ca : Nat) (l : List Val) (w : World) (hn : l.length = n) (hm : n ≤ 4096) (h1 : 1 ≤ r) (h2 : 1 ≤ c) (h3 : r ≤ 4096) (h4 : c ≤ 4096) (q : Int) (hq : r * c = q) (h : 4096 < q) :
    Calls Tryz.prog 18 #[.agg #[.int .i64 r, .int .i64 c, .slice A n ca]] w (RgA w r c l) := by
  have HB := Lib.hid ((Below.refl _ w).alloc (Nat.le_refl _) (.cells #[.int .i64 r, .int .i64 c, .slice A n ca] 24))
  have HK := Lib.hid (show ¬ RightA r c l from fun h => by
    have := h.le (by rw [hn]; exact hm)
    have h3 := h.len
    rw [hn] at h3
    obtain ⟨a1, a2, a3, a4⟩ := this
    have a5 : 1 * c ≤ r * c := Int.mul_le_mul_of_nonneg_right a1 (by omega)
    omega)
  have hq2 : r * c ≤ 4096 * 4096 := Int.mul_le_mul h3 h4 (by omega) (by omega)
  have s1 : IntKind.i64.wrap (r * c) = q := by rw [hq]; exact IntWalk.i64_in _ (by omega)
  clear hq hq2
  go_enter Tryz.func18, Tryz.ntmps18
  go_wp2_with fail
  go_ret
  exact ⟨false, rfl, ⟨(fun h => by cases h), fun h => absurd h HK.out⟩, HB.out⟩
set_option maxRecDepth 100000 in
set_option maxHeartbeats 4000000 in
theorem r09_len (r c : Int) (A : Option Addr) (n ca : Nat) (l : List Val) (w : World) (hn : l.length = n) (hm : n ≤ 4096) (h1 : 1 ≤ r) (h2 : 1 ≤ c) (h3 : r ≤ 4096) (h4 : c ≤ 4096) (q : Int) (hq : r * c = q) (h5 : q ≤ 4096) (h : ¬ (n : Int) = q) :
    Calls Tryz.prog 18 #[.agg #[.int .i64 r, .int .i64 c, .slice A n ca]] w (RgA w r c l) := by
  have HB := Lib.hid ((Below.refl _ w).alloc (Nat.le_refl _) (.cells #[.int .i64 r, .int .i64 c, .slice A n ca] 24))
  have HK := Lib.hid (show ¬ RightA r c l from fun h => by
    have := h.le (by rw [hn]; exact hm)
    have h3 := h.len
    rw [hn] at h3
    obtain ⟨a1, a2, a3, a4⟩ := this
    have a5 : 1 * c ≤ r * c := Int.mul_le_mul_of_nonneg_right a1 (by omega)
    omega)
  have hb : ((n : Int) != q) = true := by simp [h]
  have hp : 0 < r * c := Int.mul_pos (by omega) (by omega)
  have s1 : IntKind.i64.wrap (r * c) = q := by rw [hq]; exact IntWalk.i64_in _ (by omega)
  clear hq h hp
  go_enter Tryz.func18, Tryz.ntmps18
  go_wp2_with fail
  go_ret
  exact ⟨false, rfl, ⟨(fun h => by cases h), fun h => absurd h HK.out⟩, HB.out⟩
set_option maxRecDepth 100000 in
set_option maxHeartbeats 4000000 in
theorem r09right_c (r c : Int) (A : Option Addr) (n ca : Nat) (l : List Val) (w : World) (hA : ManyR Val.cs 6 w A l) (hn : l.length = n) (hm : n ≤ 4096) (hf : ∀ v ∈ l, FitsV v) :
    Calls Tryz.prog 18 #[.agg #[.int .i64 r, .int .i64 c, .slice A n ca]] w (RgA w r c l) := by
  by_cases h1 : 1 ≤ r
  case neg => exact r09_r0 r c A n ca l w hn hm (by omega)
  by_cases h2 : 1 ≤ c
  case neg => exact r09_c0 r c A n ca l w hn hm h1 (by omega)
  by_cases h3 : r ≤ 4096
  case neg => exact r09_r1 r c A n ca l w hn hm h1 h2 (by omega)
  by_cases h4 : c ≤ 4096
  case neg => exact r09_c1 r c A n ca l w hn hm h1 h2 h3 (by omega)
  obtain ⟨q, hq⟩ : ∃ q, r * c = q := ⟨_, rfl⟩
  by_cases h5 : q ≤ 4096
  case neg => exact r09_q1 r c A n ca l w hn hm h1 h2 h3 h4 q hq (by omega)
  by_cases hlen : (n : Int) = q
  case neg => exact r09_len r c A n ca l w hn hm h1 h2 h3 h4 q hq h5 hlen
  have hp : 0 < r * c := Int.mul_pos (by omega) (by omega)
  have s1 : IntKind.i64.wrap (r * c) = q := by rw [hq]; exact IntWalk.i64_in _ (by omega)
  have HB := Lib.hid ((Below.refl _ w).alloc (Nat.le_refl _) (.cells #[.int .i64 r, .int .i64 c, .slice A n ca] 24))
  have bX := Lib.hid (Blk.new w 24 #[.int .i64 r, .int .i64 c, .slice A n ca])
  have HA := Lib.hid hA
  have HN := Lib.hid hn
  have HF := Lib.hid hf
  have HQ := Lib.hid hq
  have H1 := Lib.hid h1
  have H2 := Lib.hid h2
  have hb : ((n : Int) != q) = false := by simp [hlen]
  have HL := Lib.hid hlen
  clear hA hn hf hq hp hlen
  go_enter Tryz.func18, Tryz.ntmps18
  go_wp2_with fail
  generalize w.alloc (.cells #[.int .i64 r, .int .i64 c, .slice A n ca] 24) = V at *
  have c0 := bX.out.cell 0
  have c1 := bX.out.cell 1
  have c2 := bX.out.cell 2
  simp only [List.getElem?_toArray, List.getElem?_cons_zero, List.getElem?_cons_succ] at c0 c1 c2
  go_wp2_with fail
  clear c0 c1 c2
  go_loopw [3] (fun i wr => ∃ j : Nat, j ≤ n ∧ i = .int .i64 j ∧ Hid (∀ v ∈ l.take j, RightV v) ∧ Hid (Below w.heap.size w wr) ∧ Hid (Blk wr w.heap.size 24 #[.int .i64 r, .int .i64 c, .slice A n ca])) (fun i _ => n - (intOf i).toNat)
  case atStart => exact ⟨0, Nat.zero_le _, rfl, Lib.hid (fun r hr => by simp at hr), HB, bX⟩
  case round =>
    obtain ⟨j, hj, rfl, hc, hb2, hbx⟩ := hrel
    have g := hbx.out.cell 2
    simp only [List.getElem?_toArray, List.getElem?_cons_zero, List.getElem?_cons_succ] at g
    by_cases hlt : j < n
    · have hjl : j < l.length := by rw [HN.out]; exact hlt
      obtain ⟨bA, oA, rfl, lA, hcA⟩ := (HA.out.next hb2.out) (fun e => by rw [e] at hjl; simp at hjl)
      have gv := hcA j hjl
      have hmem := Lib.hid (List.getElem_mem hjl)
      have htk := Lib.hid (show l.take (j + 1) = l.take j ++ [l[j]] from by rw [List.take_succ_eq_append_getElem hjl])
      clear hcA
      generalize l[j] = z at *
      have HZ := Lib.hid (HF.out _ hmem.out)
      have HRt := Lib.hid (fun W => rrightV_c z HZ.out.1 HZ.out.2.1 HZ.out.2.2.1 HZ.out.2.2.2 W)
      have hzc : z.cs = [.int .i64 z.kind, .int .i64 z.mant, .int .i64 z.exp, .string z.text, .bool z.truth, .int .i64 z.fault] := rfl
      obtain ⟨vk, m, ex, t, b, f⟩ := z
      have c0 := gv 0 _ rfl
      have c1 := gv 1 _ rfl
      have c2 := gv 2 _ rfl
      have c3 := gv 3 _ rfl
      have c4 := gv 4 _ rfl
      have c5 := gv 5 _ rfl
      rw [Nat.add_zero] at c0
      clear gv hzc
      have hj0 : (0 : Int) ≤ (j : Int) := by omega
      have hjn : (j : Int) < (n : Int) := by omega
      have wj : IntKind.i64.wrap ((j : Int) + 1) = (j : Int) + 1 := IntWalk.i64_in _ (by omega)
      go_wp2_with fail
      refine (HRt.out wr).mono ?_
      rintro e w1 ⟨b1, rfl, r1, B1⟩
      have HB1 := Lib.hid (hb2.out.trans (B1.mono hb2.out.size))
      have HX1 := Lib.hid (hbx.out.kept (B1.block _ hbx.out.lt))
      have HR1 := Lib.hid r1
      clear B1 r1 g c0 c1 c2 c3 c4 c5
      cases b1
      · go_wp2_with fail
        go_ret
        exact ⟨false, rfl, ⟨(fun h => by cases h), fun h => absurd (HR1.out.2 (h.all _ hmem.out)) (by simp)⟩, HB1.out⟩
      · go_wp2_with fail
        go_roundw
        case rel =>
          refine ⟨j + 1, by omega, by go_num, Lib.hid (fun v hv => ?_), HB1, HX1⟩
          rw [htk.out, List.mem_append] at hv
          rcases hv with hv | hv
          · exact hc.out v hv
          · rw [List.mem_singleton.1 hv]
            exact HR1.out.1 (by first | trivial | rfl)
        case measure => simp [intOf]; omega
    · obtain rfl : j = n := by omega
      have hjj : decide ((j : Int) < (j : Int)) = false := decide_eq_false (by omega)
      go_wp2_with fail
      go_ret
      refine ⟨true, rfl, ⟨fun _ => ⟨H1.out, H2.out, by rw [HQ.out, HN.out]; exact HL.out.symm, fun v hv => hc.out v (by rw [List.take_of_length_le (by rw [HN.out]; exact Nat.le_refl _)]; exact hv)⟩, fun _ => rfl⟩, hb2.out⟩
end Go.Proofs.YtccnkkffeokgcaaGreatDoor
