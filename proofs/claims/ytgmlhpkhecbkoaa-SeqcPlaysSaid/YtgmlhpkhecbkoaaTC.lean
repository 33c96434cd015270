/-
  counterpaneref36.same, Same, In. Conditions: slices that can be read.
  counterpanelaw36.put, unlike. Conditions: the shared axis lies in memory; the slices can be read.
  counterpanelaw36.unlike. Conditions: the slices can be read.
  counterpanelaw36.awake. No condition.
  How a slice of insertions, an insertion, a small number among the arguments of a law is opened. No condition.
-/
import Derived.Test.YtgmlhpkhecbkoaaTB
import Derived.Test.YtgmlhpkhecbkoaaM3
namespace Go.Proofs.Ytgmlhpkhecbkoaa
open Go.RowKit

set_option maxRecDepth 100000 in
set_option maxHeartbeats 1000000 in
theorem same62_c (x1 x2 y1 y2 : Int) (w : World) :
    Calls Try.prog 62 #[.agg #[.int .i64 x1, .int .i64 x2], .agg #[.int .i64 y1, .int .i64 y2]] w fun e w' => e = .returned (.bool (decide ((x1, x2) = (y1, y2)))) ∧ Below w.heap.size w w' := by
  have hb : Below w.heap.size w ((w.alloc (.cells #[.int .i64 x1, .int .i64 x2] 24)).alloc (.cells #[.int .i64 y1, .int .i64 y2] 24)) := ((Below.refl _ w).alloc (Nat.le_refl _) _).alloc (by simp) _
  have HB := Lib.hid hb
  clear hb
  cases h1 : (x1 == y1)
  · have E := Lib.hid (show decide ((x1, x2) = (y1, y2)) = false by
      rw [decide_eq_false_iff_not]; intro h; simp only [Prod.mk.injEq] at h; rw [h.1] at h1; simp at h1)
    go_enter Try.func62, Try.ntmps62
    go_wp2_with fail
    go_ret
    exact ⟨ret_bool E.out.symm, HB.out⟩
  · have h1' : x1 = y1 := by simpa using h1
    subst h1'
    cases h2 : (x2 == y2)
    · have E := Lib.hid (show decide ((x1, x2) = (x1, y2)) = false by
        rw [decide_eq_false_iff_not]; intro h; simp only [Prod.mk.injEq] at h; rw [h.2] at h2; simp at h2)
      go_enter Try.func62, Try.ntmps62
      go_wp2_with fail
      go_ret
      exact ⟨ret_bool E.out.symm, HB.out⟩
    · have h2' : x2 = y2 := by simpa using h2
      subst h2'
      have E := Lib.hid (show decide ((x1, x2) = (x1, x2)) = true by simp)
      go_enter Try.func62, Try.ntmps62
      go_wp2_with fail
      go_ret
      exact ⟨ret_bool E.out.symm, HB.out⟩

theorem IdsR.belowTo {w w' : World} {own : Tags} {t : Nat} {A : Option Addr} {l : List Id} (h : IdsR w own t A l) (k : Below w.heap.size w w') : IdsR w' own t A l := h.keep k.size (Same.below k)

set_option maxRecDepth 100000 in
set_option maxHeartbeats 1000000 in
/-- In: is the id one of the list? -/
theorem in36_c (A : Option Addr) (n c : Nat) (l : List Id) (y1 y2 : Int) (w : World) (own : Tags) (s : Nat) (hA : IdsR w own s A l) (hl : l.length = n) (hn : n ≤ 1000000) :
    Calls Try.prog 54 #[.slice A n c, .agg #[.int .i64 y1, .int .i64 y2]] w fun e w' => e = .returned (.bool (decide ((y1, y2) ∈ l))) ∧ Below w.heap.size w w' := by
  have Hl := Lib.hid hl
  have bl0 : Below w.heap.size w (w.alloc (.cells #[.int .i64 y1, .int .i64 y2] 24)) := (Below.refl _ w).alloc (Nat.le_refl _) _
  have HA := Lib.hid (hA.belowTo bl0)
  have BL0 := Lib.hid bl0
  have b0 := Lib.hid (Blk.new w 24 #[.int .i64 y1, .int .i64 y2])
  clear hl hA bl0
  go_enter Try.func54, Try.ntmps54
  go_wp2_with fail
  go_loopw [5] (fun i wr => ∃ k : Nat, k ≤ n ∧ i = .int .i64 k ∧ Hid (∀ j, j < k → l[j]? ≠ some (y1, y2)) ∧ Below (w.heap.size + 1) (w.alloc (.cells #[.int .i64 y1, .int .i64 y2] 24)) wr) (fun i _ => n - (intOf i).toNat)
  case atStart => exact ⟨0, Nat.zero_le _, rfl, (fun j hj => absurd hj (by omega)), Below.refl _ _⟩
  case round =>
    obtain ⟨k, hk, rfl, hno, hbel⟩ := hrel
    by_cases hlt : k < n
    · have hkl : k < l.length := by rw [Hl.out]; exact hlt
      have hbel' : Below (w.alloc (.cells #[.int .i64 y1, .int .i64 y2] 24)).heap.size (w.alloc (.cells #[.int .i64 y1, .int .i64 y2] 24)) wr := by simpa using hbel
      obtain ⟨b1, o1, rfl, _, _, hc1⟩ := (HA.out.belowTo hbel') (fun e => by rw [e] at hkl; simp at hkl)
      obtain ⟨g1, g2⟩ := hc1 k hkl
      have e1 := Lib.hid (List.getElem?_eq_getElem hkl)
      have bb := b0.out.kept (hbel'.block _ b0.out.lt)
      have g3 := bb.cell 0
      have g4 := bb.cell 1
      simp only [List.getElem?_toArray, List.getElem?_cons_zero, List.getElem?_cons_succ] at g3 g4
      clear hc1 bb hbel'
      generalize l[k] = z at *
      obtain ⟨z1, z2⟩ := z
      dsimp only at g1 g2
      have hk0 : (0 : Int) ≤ (k : Int) := by omega
      have hkn : (k : Int) < (n : Int) := by omega
      have HC : AllCells wr.drew [(⟨b1, o1 + k * 2, none⟩, .int .i64 z1), (⟨b1, o1 + k * 2 + 1, none⟩, .int .i64 z2), (⟨w.heap.size, 0, none⟩, .int .i64 y1), (⟨w.heap.size, 1, none⟩, .int .i64 y2)] := ⟨g1, g2, g3, g4, trivial⟩
      go_wp2_with fail
      refine region_free _ [0, 1, 2, 3, 4] 1 (by kernel_rfl) (by kernel_rfl) (by kernel_rfl) (by kernel_rfl) (by kernel_rfl) (fun _ _ _ _ _ h => h) HC ?_
      intro hne hu
      simp only [AllCells] at hu
      simp only [pick, List.take_succ_cons, List.take_zero, List.drop_succ_cons, List.drop_zero, List.cons_append, List.nil_append]
      repeat (go_big_quiet_step (fail))
      refine wpQuiet_nil ?_
      clear hne hu
      refine anyN_oneL 5 (by kernel_rfl) ?_
      simp only [List.take_succ_cons, List.take_zero, List.drop_succ_cons, List.drop_zero]
      go_wp2_with fail
      refine (same62_c z1 z2 y1 y2 wr.drew).mono ?_
      rintro e w1 ⟨rfl, hb1⟩
      obtain ⟨q, hq⟩ : ∃ q, decide ((z1, z2) = (y1, y2)) = q := ⟨_, rfl⟩
      rw [hq]
      have HQ := Lib.hid hq
      clear hq
      have HC1 := AllCells.below (show AllCells wr.drew _ from HC) hb1
      have B1 := Lib.hid (show Below (w.heap.size + 1) (w.alloc (.cells #[.int .i64 y1, .int .i64 y2] 24)) w1 from hbel.drew.trans (hb1.mono (by have := hbel.size; simpa using this)))
      clear hb1 hbel
      go_wp2_with fail
      refine And.intro (fun _ => HC1) ?_
      refine ⟨by kernel_rfl, ?_⟩
      clear HC HC1 g1 g2 g3 g4
      cases q
      · have Hq := Lib.hid (of_decide_eq_false HQ.out)
        go_wp2_with fail
        go_roundw
        case rel =>
          refine ⟨k + 1, by omega, by go_num, ?_, B1.out⟩
          intro j hj
          by_cases hjk : j < k
          · exact hno.out j hjk
          · have : j = k := by omega
            subst this
            rw [e1.out]
            exact fun e => Hq.out (Option.some.inj e)
        case measure => simp [intOf]; omega
      · have Hq := Lib.hid (of_decide_eq_true HQ.out)
        go_wp2_with fail
        go_ret
        refine ⟨ret_bool ?_, BL0.out.trans (B1.out.mono (Nat.le_succ _))⟩
        symm
        rw [decide_eq_true_eq, ← Hq.out]
        exact List.mem_of_getElem? e1.out
    · have hkn : ¬ ((k : Int) < (n : Int)) := by omega
      go_wp2_with fail
      go_ret
      refine ⟨ret_bool ?_, BL0.out.trans (hbel.mono (Nat.le_succ _))⟩
      symm
      rw [decide_eq_false_iff_not]
      intro hm
      obtain ⟨j, hj⟩ := List.mem_iff_getElem?.1 hm
      have := (List.getElem?_eq_some_iff.1 hj).1
      rw [Hl.out] at this
      exact hno.out j (by omega) hj
set_option maxRecDepth 100000 in
set_option maxHeartbeats 1000000 in
theorem same28_ne (A B : Option Addr) (n m c d : Nat) (w : World) (hnm : n ≠ m) :
    Calls Try.prog 28 #[.slice A n c, .slice B m d] w fun e w' => e = .returned (.bool false) ∧ w = w' := by
  have hd : ((n : Int) != (m : Int)) = true := by rw [bne_iff_ne]; omega
  go_enter Try.func28, Try.ntmps28
  go_wp2
  go_ret
  exact ⟨rfl, rfl⟩
set_option maxRecDepth 100000 in
set_option maxHeartbeats 1000000 in
theorem same28_eq (A B : Option Addr) (n c d : Nat) (l m : List Id) (w : World) (own1 own2 : Tags) (s t : Nat) (hA : IdsR w own1 s A l) (hB : IdsR w own2 t B m) (hl : l.length = n) (hm : m.length = n) (hn : n ≤ 1000000) :
    Calls Try.prog 28 #[.slice A n c, .slice B n d] w fun e w' => e = .returned (.bool (decide (l = m))) ∧ Below w.heap.size w w' := by
  have Hl := Lib.hid hl
  have Hm := Lib.hid hm
  have HA := Lib.hid hA
  have HB := Lib.hid hB
  have hd : ((n : Int) != (n : Int)) = false := by simp
  clear hl hm hA hB
  go_enter Try.func28, Try.ntmps28
  go_wp2_with fail
  go_loopw [5] (fun i wr => ∃ k : Nat, k ≤ n ∧ i = .int .i64 k ∧ Hid (∀ j, j < k → l[j]? = m[j]?) ∧ Below w.heap.size w wr) (fun i _ => n - (intOf i).toNat)
  case atStart => exact ⟨0, Nat.zero_le _, rfl, (fun j hj => absurd hj (by omega)), Below.refl _ _⟩
  case round =>
    obtain ⟨k, hk, rfl, hno, hbel⟩ := hrel
    by_cases hlt : k < n
    · have hkl : k < l.length := by rw [Hl.out]; exact hlt
      have hkm : k < m.length := by rw [Hm.out]; exact hlt
      obtain ⟨b1, o1, rfl, _, _, hc1⟩ := (HA.out.belowTo hbel) (fun e => by rw [e] at hkl; simp at hkl)
      obtain ⟨b2, o2, rfl, _, _, hc2⟩ := (HB.out.belowTo hbel) (fun e => by rw [e] at hkm; simp at hkm)
      obtain ⟨g1, g2⟩ := hc1 k hkl
      obtain ⟨g3, g4⟩ := hc2 k hkm
      have e1 := Lib.hid (List.getElem?_eq_getElem hkl)
      have e2 := Lib.hid (List.getElem?_eq_getElem hkm)
      clear hc1 hc2
      generalize l[k] = z at *
      generalize m[k] = y at *
      obtain ⟨z1, z2⟩ := z
      obtain ⟨y1, y2⟩ := y
      dsimp only at g1 g2 g3 g4
      have hk0 : (0 : Int) ≤ (k : Int) := by omega
      have hkn : (k : Int) < (n : Int) := by omega
      have HC : AllCells wr.drew [(⟨b1, o1 + k * 2, none⟩, .int .i64 z1), (⟨b1, o1 + k * 2 + 1, none⟩, .int .i64 z2), (⟨b2, o2 + k * 2, none⟩, .int .i64 y1), (⟨b2, o2 + k * 2 + 1, none⟩, .int .i64 y2)] := ⟨g1, g2, g3, g4, trivial⟩
      go_wp2_with fail
      refine region_free _ [0, 1, 2, 3, 4, 5, 6, 7] 2 (by kernel_rfl) (by kernel_rfl) (by kernel_rfl) (by kernel_rfl) (by kernel_rfl) (fun _ _ _ _ _ h => h) HC ?_
      intro hne hu
      simp only [AllCells] at hu
      simp only [pick, List.take_succ_cons, List.take_zero, List.drop_succ_cons, List.drop_zero, List.cons_append, List.nil_append]
      repeat (go_big_quiet_step (fail))
      refine wpQuiet_nil ?_
      clear hne hu
      refine anyN_oneL 8 (by kernel_rfl) ?_
      simp only [List.take_succ_cons, List.take_zero, List.drop_succ_cons, List.drop_zero]
      go_wp2_with fail
      refine (same62_c z1 z2 y1 y2 wr.drew).mono ?_
      rintro e w1 ⟨rfl, hb1⟩
      obtain ⟨q, hq⟩ : ∃ q, decide ((z1, z2) = (y1, y2)) = q := ⟨_, rfl⟩
      rw [hq]
      have HQ := Lib.hid hq
      clear hq
      have HC1 := AllCells.below (show AllCells wr.drew _ from HC) hb1
      have B1 := Lib.hid (show Below w.heap.size w w1 from hbel.drew.trans (hb1.mono (by have := hbel.size; simpa using this)))
      clear hb1 hbel
      go_wp2_with fail
      refine And.intro (fun _ => HC1) ?_
      refine anyN_more [9] 0 (by kernel_rfl) (by kernel_rfl) (by kernel_rfl) (by kernel_rfl) (fun _ _ _ _ _ h => h) HC1 ?_
      intro hne hu
      simp only [AllCells] at hu
      simp only [pick, List.take_succ_cons, List.take_zero, List.drop_succ_cons, List.drop_zero, List.cons_append, List.nil_append]
      repeat (go_big_quiet_step (fail))
      refine wpQuiet_nil ?_
      clear hne hu
      refine ⟨by kernel_rfl, ?_⟩
      clear HC HC1 g1 g2 g3 g4
      cases q
      · have Hq := Lib.hid (of_decide_eq_false HQ.out)
        go_wp2_with fail
        go_ret
        refine ⟨ret_bool ?_, B1.out⟩
        symm
        rw [decide_eq_false_iff_not]
        rintro rfl
        exact Hq.out (Option.some.inj (e1.out.symm.trans e2.out))
      · have Hq := Lib.hid (of_decide_eq_true HQ.out)
        go_wp2_with fail
        go_roundw
        case rel =>
          refine ⟨k + 1, by omega, by go_num, ?_, B1.out⟩
          intro j hj
          by_cases hjk : j < k
          · exact hno.out j hjk
          · have : j = k := by omega
            subst this
            rw [e1.out, e2.out, Hq.out]
        case measure => simp [intOf]; omega
    · have hkn : ¬ ((k : Int) < (n : Int)) := by omega
      go_wp2_with fail
      go_ret
      refine ⟨ret_bool ?_, hbel⟩
      symm
      rw [decide_eq_true_eq]
      exact take_eq_of (Hl.out.trans Hm.out.symm) (fun j hj => hno.out j (by rw [Hl.out] at hj; omega))
theorem same28_c (A B : Option Addr) (n k c d : Nat) (l m : List Id) (w : World) (own1 own2 : Tags) (s t : Nat) (hA : IdsR w own1 s A l) (hB : IdsR w own2 t B m) (hl : l.length = n) (hm : m.length = k) (hn : n ≤ 1000000) :
    Calls Try.prog 28 #[.slice A n c, .slice B k d] w fun e w' => e = .returned (.bool (decide (l = m))) ∧ Below w.heap.size w w' := by
  by_cases hnk : n = k
  · subst hnk; exact same28_eq A B n c d l m w own1 own2 s t hA hB hl hm hn
  · refine (same28_ne A B n k c d w hnk).mono fun e w' ⟨he, hw⟩ => ⟨?_, hw ▸ Below.refl _ _⟩
    rw [he, decide_eq_false]
    rintro rfl
    exact hnk (hl.symm.trans hm)
end Go.Proofs.Ytgmlhpkhecbkoaa
namespace Go.Proofs.Ytgmlhpkhecbkoaa
open Go.RowKit

def putOf (p : Id × Id) : List Value := [.int .i64 p.1.1, .int .i64 p.1.2, .int .i64 p.2.1, .int .i64 p.2.2]
theorem ManyR.puts {w : World} {own : Tags} {t : Nat} {A : Option Addr} {l : List (Id × Id)} (h : ManyR putOf 4 w own t A l) (hl : l ≠ []) : ∃ b off, A = some ⟨b, off, none⟩ ∧ own b = t ∧ b < w.heap.size ∧ ∀ i (h : i < l.length), w.cell? ⟨b, off + i * 4, none⟩ = some (.int .i64 l[i].1.1) ∧ w.cell? ⟨b, off + i * 4 + 1, none⟩ = some (.int .i64 l[i].1.2) ∧ w.cell? ⟨b, off + i * 4 + 2, none⟩ = some (.int .i64 l[i].2.1) ∧ w.cell? ⟨b, off + i * 4 + 3, none⟩ = some (.int .i64 l[i].2.2) := by
  obtain ⟨b, off, hA, ho, hb, hc⟩ := h hl
  exact ⟨b, off, hA, ho, hb, fun i hi => ⟨hc i hi 0 _ rfl, hc i hi 1 _ rfl, hc i hi 2 _ rfl, hc i hi 3 _ rfl⟩⟩
theorem pass_take (first : List Id) (ps l : List (Id × Id)) (k : Nat) (p : Id × Id) (h : l[k]? = some p) : pass first ps (l.take (k + 1)) = insPuts first (pass first ps (l.take k)) p.1 p.2 := by
  obtain ⟨h3, h4⟩ := List.getElem?_eq_some_iff.1 h
  unfold pass
  rw [List.take_succ_eq_append_getElem h3, List.foldl_append, h4]
  rfl

set_option maxRecDepth 100000 in
set_option maxHeartbeats 4000000 in
theorem put27_s (w : World) (own : Tags) (t s p n c : Nat) (A : Option Addr) (first : List Id) (puts cuts l : List (Id × Id)) (h : ShAt w own t p first puts cuts) (hf : Fresh own w) (ht : t ≠ 0) (hst : s ≠ t) (hA : ManyR putOf 4 w own s A l) (hl : l.length = n) (hn : n ≤ 1000) :
    Calls Try.prog 27 #[.pointer (some ⟨p, 0, none⟩), .slice A n c] w fun e w' => e = .returned (.tuple #[]) ∧ ∃ own', Tr own t w own' w' ∧ ShAt w' own' t p first (passes first l n puts) cuts := by
  have Hl := Lib.hid hl
  have HS := Lib.hid h
  have HF := Lib.hid hf
  have Ht := Lib.hid ht
  have Hst := Lib.hid hst
  have HA := Lib.hid hA
  clear hl h hf ht hA hst
  go_enter Try.func27, Try.ntmps27
  go_wp2_with fail
  go_loopw [7] (fun i wr => ∃ (r : Nat) (ow : Tags), r ≤ n ∧ i = .int .i64 r ∧ Hid (Tr own t w ow wr) ∧ Hid (ShAt wr ow t p first (passes first l r puts) cuts)) (fun i _ => n - (intOf i).toNat)
  case atStart => exact ⟨0, own, Nat.zero_le _, rfl, Tr.refl _ _ _, HS.out⟩
  case round =>
    obtain ⟨r, ow, hr, rfl, tr1, sh1⟩ := hrel
    clear HS
    by_cases hlt : r < n
    · have hk0 : (0 : Int) ≤ (r : Int) := by omega
      have hkn : (r : Int) < (n : Int) := by omega
      go_wp2_with fail
      obtain ⟨PS, hPS⟩ : ∃ PS, passes first l r puts = PS := ⟨_, rfl⟩
      have HPS := Lib.hid hPS
      rw [hPS] at sh1
      clear hPS
      go_loopw [4] (fun i ww => ∃ (k : Nat) (ow2 : Tags), k ≤ n ∧ i = .int .i64 k ∧ Hid (Tr own t w ow2 ww) ∧ Hid (ShAt ww ow2 t p first (pass first PS (l.take k)) cuts)) (fun i _ => n - (intOf i).toNat)
      case atStart => exact ⟨0, ow, Nat.zero_le _, rfl, tr1.out, sh1.out⟩
      case round =>
        clear sh1 tr1
        obtain ⟨k, ow2, hk, rfl, tr2, sh2⟩ := hrel
        by_cases hlt2 : k < n
        · have hkl : k < l.length := by rw [Hl.out]; exact hlt2
          obtain ⟨b1, o1, rfl, ho1, _, hc1⟩ := (HA.out.keep tr2.out.size (tr2.out.toSame Hst.out)).puts (fun e => by rw [e] at hkl; simp at hkl)
          obtain ⟨g1, g2, g3, g4⟩ := hc1 k hkl
          have e1 := Lib.hid (pass_take first PS l k _ (List.getElem?_eq_getElem hkl))
          clear hc1
          generalize l[k] = z at *
          obtain ⟨⟨x1, x2⟩, ⟨y1, y2⟩⟩ := z
          dsimp only at g1 g2 g3 g4
          have hk0 : (0 : Int) ≤ (k : Int) := by omega
          have hkn : (k : Int) < (n : Int) := by omega
          have C0 := Lib.hid (Kept.cons (own := ow2) (T := [s]) g1 (by simp [ho1]) (Kept.cons g2 (by simp [ho1]) (Kept.cons g3 (by simp [ho1]) (Kept.cons g4 (by simp [ho1]) Kept.nil))))
          have HIN := Lib.hid (sinsert_c wr.drew ow2 t p first (pass first PS (l.take k)) cuts x1 x2 y1 y2 (sh2.out.keep Same.drew) (HF.out.tr (tr2.out.drew)) Ht.out)
          clear sh2 ho1
          go_wp2_with fail
          refine region_free _ [0, 1, 2, 3, 4, 5, 6, 7, 8, 9, 10] 1 (by kernel_rfl) (by kernel_rfl) (by kernel_rfl) (by kernel_rfl) (by kernel_rfl) (fun _ _ _ _ _ h => h) C0.out.drew.1 ?_
          intro hne hu
          simp only [AllCells] at hu
          simp only [pick, List.take_succ_cons, List.take_zero, List.drop_succ_cons, List.drop_zero, List.cons_append, List.nil_append]
          repeat (go_big_quiet_step (fail))
          refine wpQuiet_nil ?_
          clear hne hu
          refine anyN_oneL 11 (by kernel_rfl) ?_
          simp only [List.take_succ_cons, List.take_zero, List.drop_succ_cons, List.drop_zero]
          go_wp2_with fail
          refine HIN.out.mono ?_
          rintro e w1 ⟨rfl, ow3, tr3, sh3⟩
          have C1 := Lib.hid (C0.out.drew.tr tr3 (by simpa using fun e => Hst.out e.symm))
          have T3 := Lib.hid ((tr2.out.drew).trans tr3)
          have S3 := Lib.hid sh3
          clear tr3 sh3 HIN C0
          go_wp2_with fail
          refine And.intro (fun _ => C1.out.1) ?_
          refine ⟨by kernel_rfl, ?_⟩
          go_wp2_with fail
          go_roundw
          case rel => exact ⟨k + 1, ow3, by omega, by go_num, T3.out, by show ShAt _ _ _ _ _ _ _; rw [e1.out]; exact S3.out⟩
          case measure => simp [intOf]; omega
        · have hkk : k = n := by omega
          subst hkk
          have hkn : ¬ ((k : Int) < (k : Int)) := by omega
          go_wp2_with fail
          go_roundw
          case rel =>
            refine ⟨r + 1, ow2, by omega, by go_num, tr2.out, ?_⟩
            have := sh2.out
            rw [← Hl.out, List.take_length, ← HPS.out, ← passes_succ] at this
            exact this
          case measure => simp [intOf]; omega
    · have hkk : r = n := by omega
      subst hkk
      have hkn : ¬ ((r : Int) < (r : Int)) := by omega
      go_wp2_with fail
      go_end0
      exact ⟨rfl, ow, tr1.out, sh1.out⟩
theorem put27_c (w : World) (own : Tags) (t p n c : Nat) (A : Option Addr) (first : List Id) (puts cuts l : List (Id × Id)) (h : ShAt w own t p first puts cuts) (hf : Fresh own w) (ht : t ≠ 0) (hA : ManyR putOf 4 w own 0 A l) (hl : l.length = n) (hn : n ≤ 1000) :
    Calls Try.prog 27 #[.pointer (some ⟨p, 0, none⟩), .slice A n c] w fun e w' => e = .returned (.tuple #[]) ∧ ∃ own', Tr own t w own' w' ∧ ShAt w' own' t p first (passes first l n puts) cuts :=
  put27_s w own t 0 p n c A first puts cuts l h hf ht (fun e => ht e.symm) hA hl hn
end Go.Proofs.Ytgmlhpkhecbkoaa
namespace Go.Proofs.Ytgmlhpkhecbkoaa
open Go.RowKit

def Unlike (first : List Id) (l : List (Id × Id)) : Prop := (l.map Prod.snd).Nodup ∧ ∀ p ∈ l, p.2 ∉ first
def UnlikeP (first : List Id) (l : List (Id × Id)) (w : World) (e : Ending) (w' : World) : Prop := ∃ b, e = .returned (.bool b) ∧ (b = true → Unlike first l) ∧ Below w.heap.size w w'
/-- The first k are unlike. -/
def UnTo (first : List Id) (l : List (Id × Id)) (k : Nat) : Prop := Unlike first (l.take k)
theorem UnTo.step {first : List Id} {l : List (Id × Id)} {k : Nat} {p : Id × Id} (h : UnTo first l k) (hp : l[k]? = some p) (h1 : p.2 ∉ first) (h2 : ∀ j, j < k → ∀ q, l[j]? = some q → q.2 ≠ p.2) : UnTo first l (k + 1) := by
  obtain ⟨h3, h4⟩ := List.getElem?_eq_some_iff.1 hp
  unfold UnTo Unlike
  rw [List.take_succ_eq_append_getElem h3, h4, List.map_append, List.nodup_append]
  refine ⟨⟨h.1, by simp, ?_⟩, ?_⟩
  · intro a ha b hb e
    have hb' : b = p.2 := by simpa using hb
    subst hb'
    subst e
    obtain ⟨q, hq1, hq2⟩ := List.mem_map.1 ha
    obtain ⟨j, hj⟩ := List.mem_iff_getElem?.1 hq1
    have hjl := (List.getElem?_eq_some_iff.1 hj).1
    simp only [List.length_take] at hjl
    rw [List.getElem?_take, if_pos (by omega)] at hj
    exact h2 j (by omega) q hj hq2
  · intro q hq
    rcases List.mem_append.1 hq with h' | h'
    · exact h.2 q h'
    · have : q = p := by simpa using h'
      subst this; exact h1

set_option maxRecDepth 100000 in
set_option maxHeartbeats 4000000 in
theorem unlike25_c (w : World) (own1 own2 : Tags) (s t n c m d : Nat) (A B : Option Addr) (first : List Id) (l : List (Id × Id)) (hA : IdsR w own1 s A first) (hn : first.length = n) (hB : ManyR putOf 4 w own2 t B l) (hm : l.length = m) (hn1 : n ≤ 1000) (hm1 : m ≤ 1000) :
    Calls Try.prog 25 #[.slice A n c, .slice B m d] w (UnlikeP first l w) := by
  have Hn := Lib.hid hn
  have Hm := Lib.hid hm
  have HA := Lib.hid hA
  have HB := Lib.hid hB
  clear hA hn hB hm
  go_enter Try.func25, Try.ntmps25
  go_wp2_with fail
  go_loopw [5] (fun i wr => ∃ (k : Nat), k ≤ m ∧ i = .int .i64 k ∧ Hid (UnTo first l k) ∧ Hid (Below w.heap.size w wr)) (fun i _ => m - (intOf i).toNat)
  case atStart => exact ⟨0, Nat.zero_le _, rfl, ⟨by simp, by simp⟩, Below.refl _ _⟩
  case round =>
    obtain ⟨k, hk, rfl, hun, hbel⟩ := hrel
    by_cases hlt : k < m
    · have hk0 : (0 : Int) ≤ (k : Int) := by omega
      have hkn : (k : Int) < (m : Int) := by omega
      have hkl : k < l.length := by rw [Hm.out]; exact hlt
      obtain ⟨b1, o1, rfl, _, _, hc1⟩ := (HB.out.keep hbel.out.size (Same.below hbel.out)).puts (fun e => by rw [e] at hkl; simp at hkl)
      obtain ⟨_, _, g3, g4⟩ := hc1 k hkl
      have e1 := Lib.hid (List.getElem?_eq_getElem hkl)
      clear hc1
      generalize l[k] = z at *
      obtain ⟨⟨x1, x2⟩, ⟨y1, y2⟩⟩ := z
      dsimp only at g3 g4
      have HIN := Lib.hid (in36_c A n c first y1 y2 wr own1 s (HA.out.belowTo hbel.out) Hn.out (by omega))
      go_wp2_with fail
      refine HIN.out.mono ?_
      rintro e w1 ⟨rfl, hb1⟩
      obtain ⟨q, hq⟩ : ∃ q, decide ((y1, y2) ∈ first) = q := ⟨_, rfl⟩
      rw [hq]
      have HQ := Lib.hid hq
      have B1 := Lib.hid (hbel.out.trans (hb1.mono hbel.out.size))
      clear hq hb1 hbel HIN g3 g4
      cases q
      · go_wp2_with fail
        go_loopw [6] (fun i wr => ∃ (j : Nat), j ≤ k ∧ i = .int .i64 j ∧ Hid (∀ i, i < j → ∀ q, l[i]? = some q → q.2 ≠ (y1, y2)) ∧ Hid (Below w.heap.size w wr)) (fun i _ => k - (intOf i).toNat)
        case atStart => exact ⟨0, Nat.zero_le _, rfl, (fun i hi => absurd hi (by omega)), B1.out⟩
        case round =>
          obtain ⟨j, hj, rfl, hno, hbel⟩ := hrel
          by_cases hlt2 : j < k
          · have hj0 : (0 : Int) ≤ (j : Int) := by omega
            have hjn : (j : Int) < (k : Int) := by omega
            have hjm : (j : Int) < (m : Int) := by omega
            have hjl : j < l.length := by rw [Hm.out]; omega
            obtain ⟨b2, o2, hAA, _, _, hc2⟩ := (HB.out.keep hbel.out.size (Same.below hbel.out)).puts (fun e => by rw [e] at hkl; simp at hkl)
            cases hAA
            obtain ⟨_, _, g3, g4⟩ := hc2 k hkl
            obtain ⟨_, _, g5, g6⟩ := hc2 j hjl
            have e2 := Lib.hid (List.getElem?_eq_getElem hjl)
            have ek : l[k] = ((x1, x2), (y1, y2)) := Option.some.inj ((List.getElem?_eq_getElem hkl).symm.trans e1.out)
            rw [ek] at g3 g4
            clear hc2 ek
            generalize l[j] = z at *
            obtain ⟨⟨v1, v2⟩, ⟨z1, z2⟩⟩ := z
            dsimp only at g3 g4 g5 g6
            cases hq2 : ideq y1 y2 z1 z2
            · have Hq2 := Lib.hid (ideq_false.1 hq2)
              go_wp2_with fail
              go_quiet (fail)
              go_wp2_with fail
              go_roundw
              case rel =>
                refine ⟨j + 1, by omega, by go_num, ?_, hbel.out.trans ⟨rfl, rfl, rfl, Nat.le_refl _, fun _ _ => rfl⟩⟩
                intro i hi q hq
                by_cases hij : i < j
                · exact hno.out i hij q hq
                · have : i = j := by omega
                  subst this
                  have : q = ((v1, v2), (z1, z2)) := Option.some.inj (hq.symm.trans e2.out)
                  subst this
                  intro e
                  simp only [Prod.mk.injEq] at e
                  exact Hq2.out ⟨e.1.symm, e.2.symm⟩
              case measure => simp [intOf]; omega
            · obtain ⟨rfl, rfl⟩ := ideq_true.1 hq2
              go_wp2_with fail
              go_quiet (fail)
              go_wp2_with fail
              go_ret
              exact ⟨false, rfl, by simp, hbel.out.trans ⟨rfl, rfl, rfl, Nat.le_refl _, fun _ _ => rfl⟩⟩
          · have hjn : ¬ ((j : Int) < (k : Int)) := by omega
            have : j = k := by omega
            subst this
            go_wp2_with fail
            go_roundw
            case rel => exact ⟨j + 1, by omega, by go_num, hun.out.step e1.out (of_decide_eq_false HQ.out) hno.out, hbel.out⟩
            case measure => simp [intOf]; omega
      · go_wp2_with fail
        go_ret
        exact ⟨false, rfl, by simp, B1.out⟩
    · have hkk : k = m := by omega
      subst hkk
      have hkn : ¬ ((k : Int) < (k : Int)) := by omega
      go_wp2_with fail
      go_ret
      refine ⟨true, rfl, fun _ => ?_, hbel.out⟩
      have := hun.out
      unfold UnTo at this
      rw [← Hm.out, List.take_length] at this
      exact this
end Go.Proofs.Ytgmlhpkhecbkoaa
namespace Go.Proofs.Ytgmlhpkhecbkoaa
open Go.RowKit

def ey2 : List Id := [(0, 1), (0, 2)]
def ep3 : List (Id × Id) := [((0, 1), (1, 1)), ((0, 1), (2, 1)), ((0, 1), (1, 2))]
theorem ey_new : newL ey2 = ey2 := by decide
theorem ey_1 : insPuts ey2 [] (0, 1) (1, 1) = [((0, 1), (1, 1))] ∧ insS ey2 [] (0, 1) (1, 1) = 0 := by decide
theorem ey_2 : insPuts ey2 [((0, 1), (1, 1))] (0, 1) (2, 1) = [((0, 1), (1, 1)), ((0, 1), (2, 1))] ∧ insS ey2 [((0, 1), (1, 1))] (0, 1) (2, 1) = 0 := by decide
theorem ey_3 : insPuts ey2 [((0, 1), (1, 1)), ((0, 1), (2, 1))] (0, 1) (1, 2) = ep3 ∧ insS ey2 [((0, 1), (1, 1)), ((0, 1), (2, 1))] (0, 1) (1, 2) = 0 := by decide
theorem ey_all : orderL ey2 ep3 = [(0, 1), (1, 2), (2, 1), (1, 1), (0, 2)] := by decide
theorem ey_ids {w : World} {own : Tags} {X : Nat} (h : Blk w X 24 #[.int .i64 0, .int .i64 1, .int .i64 0, .int .i64 2]) (h0 : own X = 0) : IdsR w own 0 (some ⟨X, 0, none⟩) ey2 := fun _ => by
  refine ⟨X, 0, rfl, h0, h.lt, fun i hi => ?_⟩
  rw [h.cell, h.cell]
  match i, hi with
  | 0, _ => exact ⟨rfl, rfl⟩
  | 1, _ => exact ⟨rfl, rfl⟩

set_option maxRecDepth 100000 in
set_option maxHeartbeats 4000000 in
theorem awake24_c (w : World) : Calls Try.prog 24 #[] w fun e w' => e = .returned (.bool true) ∧ Below w.heap.size w w' := by
  have k0 := ((Clean.start w).alloc (.cells #[.int .i64 0, .int .i64 1] 24)).alloc (.cells #[.int .i64 0, .int .i64 2] 24)
  have x0 := (Box.new (Clean.start w).fresh 24 #[.int .i64 0, .int .i64 1]).alloc (.cells #[.int .i64 0, .int .i64 2] 24)
  have y0 := (Box.new ((Clean.start w).alloc (.cells #[.int .i64 0, .int .i64 1] 24)).fresh 24 #[.int .i64 0, .int .i64 2])
  simp only [World.size_alloc] at y0
  have K0 := Lib.hid k0
  have X0 := Lib.hid x0
  have Y0 := Lib.hid y0
  clear k0 x0 y0
  have hsz := Lib.hid (show ((w.alloc (Obj.cells #[.int .i64 0, .int .i64 1] 24)).alloc (Obj.cells #[.int .i64 0, .int .i64 2] 24)).heap.size = w.heap.size + 1 + 1 by simp)
  go_enter Try.func24, Try.ntmps24
  go_wp2_with fail
  generalize ((w.alloc (Obj.cells #[.int .i64 0, .int .i64 1] 24)).alloc (Obj.cells #[.int .i64 0, .int .i64 2] 24)) = W0 at *
  have s0 := Box.new K0.out.fresh 24 #[.int .i64 0, .int .i64 1, .int .i64 0, .int .i64 2]
  rw [hsz.out] at s0
  refine (snew_c _ 2 2 ey2 _ (fun _ => 0) 0 1 (ey_ids s0.blk s0.zero) rfl (by simp [maxLen]) (by decide) (K0.out.alloc _).fresh (by decide)).mono ?_
  rintro e w1 ⟨own1, q, rfl, tr1, a1⟩
  rw [ey_new] at a1
  have A1 := Lib.hid a1
  have K1 := Lib.hid ((K0.out.alloc _).tr tr1 (by decide))
  have X1 := Lib.hid ((X0.out.alloc _).tr tr1 (by decide))
  have Y1 := Lib.hid ((Y0.out.alloc _).tr tr1 (by decide))
  clear s0 tr1 a1 K0 X0 Y0 hsz
  have c1 := X1.out.blk.cell 0
  have c2 := X1.out.blk.cell 1
  simp only [List.getElem?_toArray, List.getElem?_cons_zero, List.getElem?_cons_succ] at c1 c2
  go_wp2_with fail
  refine (sinsert_c w1 own1 1 q ey2 [] [] 0 1 1 1 A1.out K1.out.fresh (by decide)).mono ?_
  rintro e w2 ⟨rfl, own2, tr2, a2⟩
  rw [ey_1.1] at a2
  rw [ey_1.2]
  have A2 := Lib.hid a2
  have K2 := Lib.hid (K1.out.tr tr2 (by decide))
  have X2 := Lib.hid (X1.out.tr tr2 (by decide))
  have Y2 := Lib.hid (Y1.out.tr tr2 (by decide))
  clear tr2 a2 K1 X1 Y1 c1 c2 A1
  have c1 := X2.out.blk.cell 0
  have c2 := X2.out.blk.cell 1
  simp only [List.getElem?_toArray, List.getElem?_cons_zero, List.getElem?_cons_succ] at c1 c2
  go_wp2_with fail
  refine (sinsert_c w2 own2 1 q ey2 _ [] 0 1 2 1 A2.out K2.out.fresh (by decide)).mono ?_
  rintro e w3 ⟨rfl, own3, tr3, a3⟩
  rw [ey_2.1] at a3
  rw [ey_2.2]
  have A3 := Lib.hid a3
  have K3 := Lib.hid (K2.out.tr tr3 (by decide))
  have X3 := Lib.hid (X2.out.tr tr3 (by decide))
  have Y3 := Lib.hid (Y2.out.tr tr3 (by decide))
  clear tr3 a3 K2 X2 Y2 c1 c2 A2
  have c1 := X3.out.blk.cell 0
  have c2 := X3.out.blk.cell 1
  simp only [List.getElem?_toArray, List.getElem?_cons_zero, List.getElem?_cons_succ] at c1 c2
  go_wp2_with fail
  refine (sinsert_c w3 own3 1 q ey2 _ [] 0 1 1 2 A3.out K3.out.fresh (by decide)).mono ?_
  rintro e w4 ⟨rfl, own4, tr4, a4⟩
  rw [ey_3.1] at a4
  rw [ey_3.2]
  have A4 := Lib.hid a4
  have K4 := Lib.hid (K3.out.tr tr4 (by decide))
  have Y4 := Lib.hid (Y3.out.tr tr4 (by decide))
  clear tr4 a4 K3 X3 Y3 c1 c2 A3
  go_wp2_with fail
  refine (allq_c w4 own4 1 2 q ey2 ep3 [] A4.out K4.out.fresh (by decide) (by decide)).mono ?_
  rintro e w5 ⟨v, own5, rfl, tr5, row5⟩
  rw [ey_all] at row5
  have K5 := Lib.hid (K4.out.tr tr5 (by decide))
  have Y5 := Lib.hid (Y4.out.tr tr5 (by decide))
  obtain ⟨A, cv, rfl, _⟩ := row5.form
  obtain ⟨bR, oR, rfl, _, _, hc⟩ := row5.toIdsR.2 (by simp)
  have r1 := hc 1 (by simp)
  have r2 := hc 2 (by simp)
  have r4 := hc 4 (by simp)
  simp at r1 r2 r4
  have c1 := Y5.out.blk.cell 0
  have c2 := Y5.out.blk.cell 1
  simp only [List.getElem?_toArray, List.getElem?_cons_zero, List.getElem?_cons_succ] at c1 c2
  clear tr5 row5 K4 Y4 A4 hc
  have q1 : ideq 1 2 1 2 = true := by decide
  have q2 : ideq 2 1 2 1 = true := by decide
  have q3 : ideq 0 2 0 2 = true := by decide
  go_wp2_with fail
  have HC : AllCells w5.drew [(⟨bR, oR + 2, none⟩, .int .i64 1), (⟨bR, oR + 2 + 1, none⟩, .int .i64 2), (⟨bR, oR + 4, none⟩, .int .i64 2), (⟨bR, oR + 4 + 1, none⟩, .int .i64 1), (⟨bR, oR + 8, none⟩, .int .i64 0), (⟨bR, oR + 8 + 1, none⟩, .int .i64 2), (⟨w.heap.size + 1, 0, none⟩, .int .i64 0), (⟨w.heap.size + 1, 1, none⟩, .int .i64 2)] := ⟨r1.1, r1.2, r2.1, r2.2, r4.1, r4.2, c1, c2, trivial⟩
  refine region_free _ [0, 1, 2, 3, 4, 5, 6, 7, 8, 9, 10, 11, 12, 13, 14, 15, 16, 17, 18, 19, 20, 21, 22, 23, 24] 0 (by kernel_rfl) (by kernel_rfl) (by kernel_rfl) (by kernel_rfl) (by kernel_rfl) (fun _ _ _ _ _ h => h) HC ?_
  intro hne hu
  simp only [AllCells] at hu
  simp only [pick, List.take_succ_cons, List.take_zero, List.drop_succ_cons, List.drop_zero, List.cons_append, List.nil_append]
  repeat (go_big_quiet_step (fail))
  refine wpQuiet_nil ?_
  clear hne hu
  refine ⟨by kernel_rfl, ?_⟩
  go_wp2_with fail
  go_ret
  exact ⟨rfl, K5.out.below.drew⟩
end Go.Proofs.Ytgmlhpkhecbkoaa
namespace Go.Proofs.Ytgmlhpkhecbkoaa
open Go.RowKit Go.ChangeShapes Go.WideShapes Go.ChangeAt Go.Joins Go.Deep

theorem Try.cells42 : Try.prog.cellsOf 42 = 4 := by kernel_rfl
theorem four_of {l : List Value} (h : l.length = 4) : ∃ a b c d, l = [a, b, c, d] := by
  match l, h with
  | [a, b, c, d], _ => exact ⟨a, b, c, d, rfl⟩
section
variable {H : Type} {enc : TypeId × Value → H} {w : World} {base : Nat} {spare : Nat → Bool} {held : Bool}
set_option maxRecDepth 100000 in
theorem trod_put {fuel : Nat} {cs : List Value} {x : DataW H × List MemPlace} (h : DataW.trod enc Try.prog w base spare held fuel 42 cs = some x) : ∃ z : Id × Id, cs = putOf z ∧ True := by
  obtain ⟨y0, y1, n, _, hl, h0, h1⟩ := trod_struct2 Try.underlying42 h
  rw [Try.cells42] at hl
  obtain ⟨c0, c1, c2, c3, rfl⟩ := four_of hl
  simp only [Try.cells24, List.drop_zero, List.take_succ_cons, List.take_zero, List.drop_succ_cons] at h0 h1
  obtain ⟨b, c, e1, _⟩ := trod_id h0
  obtain ⟨d, e, e2, _⟩ := trod_id h1
  cases e1
  cases e2
  exact ⟨((b, c), (d, e)), rfl, trivial⟩
set_option maxRecDepth 100000 in
theorem open_puts {r : Go.Reach} {b0 : Nat} {v : Value} {d : DataW H} {p : List MemPlace} (hv : Value.okWide Try.prog w r b0 37 v) (h : DataW.Trod enc Try.prog w 0 (fun _ => true) held 37 v d p) :
    ∃ A n c l, v = .slice A n c ∧ l.length = n ∧ n ≤ maxLen ∧ ManyR putOf 4 w (fun _ => 0) 0 A l ∧ ∀ z ∈ l, True :=
  open_many Try.underlying37 Try.cells42 (by omega) (fun _ => rfl) (fun _ _ _ h => trod_put h) hv h
set_option maxRecDepth 100000 in
theorem open_put {r : Go.Reach} {b0 : Nat} {v : Value} {d : DataW H} {p : List MemPlace} (hv : Value.okWide Try.prog w r b0 42 v) (h : DataW.Trod enc Try.prog w base spare held 42 v d p) :
    ∃ z : Id × Id, v = .agg #[.int .i64 z.1.1, .int .i64 z.1.2, .int .i64 z.2.1, .int .i64 z.2.2] := by
  obtain ⟨cs, rfl, hsz⟩ := okWide_struct Try.underlying42 hv
  obtain ⟨fuel, hf⟩ := h
  obtain ⟨z, e, _⟩ := trod_put hf
  refine ⟨z, ?_⟩
  have : cs = #[.int .i64 z.1.1, .int .i64 z.1.2, .int .i64 z.2.1, .int .i64 z.2.2] := by
    apply Array.ext'
    simpa [Value.cells, putOf] using e
  rw [this]
set_option maxRecDepth 100000 in
theorem open_u8 {r : Go.Reach} {b0 : Nat} {v : Value} {d : DataW H} {p : List MemPlace} (hv : Value.okWide Try.prog w r b0 5 v) (h : DataW.Trod enc Try.prog w base spare held 5 v d p) :
    ∃ n : Nat, v = .int .u8 n ∧ n < 256 := by
  obtain ⟨m, rfl⟩ := okWide_int Try.underlying5 hv
  obtain ⟨fuel, hf⟩ := h
  obtain ⟨a, e0, _, wa⟩ := DataW.trod_int Try.underlying5 hf
  have hma : m = a := by simpa [Value.cells] using e0
  subst hma
  have h1 : IntKind.u8.min = 0 := rfl
  have h2 : IntKind.u8.max = 255 := rfl
  simp only [Lit.wf, Bool.and_eq_true, decide_eq_true_eq] at wa
  exact ⟨m.toNat, by rw [Int.toNat_of_nonneg (by omega)], by omega⟩
end
end Go.Proofs.Ytgmlhpkhecbkoaa
