/-
  slices.SortStableFunc at ints, order.Permutation: their contracts. Condition: the rows and keys can be read; at most 60 rows.
-/
import Derived.Test.YtifdpcjfjoekmaaA16
import Derived.Test.YtifdpcjfjoekmaaA17
namespace Go.Proofs.Ytifdpcjfjoekmaa
open Go.RowKit

set_option maxRecDepth 100000 in
set_option maxHeartbeats 4000000 in
theorem sort_c (w : World) (g n cap bl bk : Nat) (cf : Nat → Nat → Int) (hC : CmpC w g n cf bl bk) (o : Ord cf n) (hn : n ≤ 60) (d : List Nat) (W : World) (h : SS w g n W d) (hid : ∀ p, p < n → D d p = p) :
    Calls Try.prog 16 #[.slice (some ⟨g, 0, none⟩) n cap, .func (.func 17) #[] #[.pointer (some ⟨bl, 0, none⟩), .pointer (some ⟨bk, 0, none⟩)]] W (AllP w g n cf d) := by
  have HCC := Lib.hid (stable_c w g n cap bl bk cf hC o hn d W h hid)
  clear hC o h hid
  go_enter Try.func16, Try.ntmps16
  go_wp2_with fail
  refine HCC.out.mono ?_
  rintro e w1 ⟨rfl, h1⟩
  have H1 := Lib.hid h1
  clear h1 HCC
  go_wp2_with fail
  go_end0
  exact ⟨rfl, H1.out⟩

theorem Try.info3 : (Try.prog.info? 3).map (fun i => (i.zero, i.size, i.bytes)) = some (some (.int .i64 0), 1, 8) := by kernel_rfl
theorem make26 (n : Nat) (hn : n ≤ 1000000) (w : World) : (Instr.makeSlice 26 (.int .i64 (n : Int)) (.int .i64 (n : Int))).run Try.prog w =
    .ok (.slice (some ⟨w.heap.size, 0, none⟩) n n) (w.alloc (.cells (natA (List.replicate n 0)) 3)) := by
  obtain ⟨i0, hi, hz0, hz1, hz2⟩ := info_parts Try.info3
  have h := run_make (P := Try.prog) w 26 3 i0 (.int .i64 0) Try.underlying26 hi hz0 .i64 .i64 n n (by omega) (by omega) (by rw [hz2]; omega) (by omega)
  rw [h]
  have e : madeCells (Value.cells (.int .i64 0)) (n * 1) = natA (List.replicate n 0) := by
    apply Array.ext
    · simp [size_madeCells, natA]
    · intro j h1 h2
      have : j % 1 = 0 := Nat.mod_one _
      simp [madeCells, Value.cells, this, natA]
  simp only [Int.toNat_natCast, hz1, e]
/-- A new slice of the places, in order. -/
def PermP (w : World) (n : Nat) (cf : Nat → Nat → Int) (e : Ending) (w' : World) : Prop :=
  ∃ g d c, e = .returned (.slice (some ⟨g, 0, none⟩) n c) ∧ w.heap.size ≤ g ∧ Below w.heap.size w w' ∧ Blk w' g 3 (natA d) ∧ Sorted cf n d
theorem Off.below {g : Nat} {w W : World} (h : Off g w W) (hg : w.heap.size ≤ g) : Below w.heap.size w W := ⟨h.os, h.tape, h.output, h.size, fun k hk => h.block k hk (by omega)⟩

set_option maxRecDepth 100000 in
set_option maxHeartbeats 4000000 in
theorem perm_c (A K : Option Addr) (n ca q ck : Nat) (rs : List RowD) (ks : List KeyD) (w : World) (hA : RowsR w A rs) (hK : ManyR keyCells 2 w K ks) (hn : rs.length = n) (hq : ks.length = q) (h1 : n ≤ 60) (h2 : q ≤ 1000000) (hok : ∀ r ∈ rs, RowOk r.l) :
    Calls Try.prog 9 #[.slice A n ca, .slice K q ck] w (PermP w n (cmpAt rs ks)) := by
  have bV : Below w.heap.size w ((w.alloc (.cells #[.slice A n ca] 22)).alloc (.cells #[.slice K q ck] 28)) := ((Below.refl _ w).alloc (Nat.le_refl _) _).alloc (by simp) _
  have bx := (Blk.new w 22 #[.slice A n ca]).alloc (.cells #[.slice K q ck] 28)
  have by' : Blk ((w.alloc (.cells #[.slice A n ca] 22)).alloc (.cells #[.slice K q ck] 28)) (w.heap.size + 1) 28 #[.slice K q ck] := by
    have := Blk.new (w.alloc (.cells #[.slice A n ca] 22)) 28 #[.slice K q ck]
    rw [World.size_alloc] at this; exact this
  have HClo := Lib.hid (show Clo ((w.alloc (.cells #[.slice A n ca] 22)).alloc (.cells #[.slice K q ck] 28)) w.heap.size (w.heap.size + 1) A K n ca q ck rs ks from ⟨bx, by', hA.next bV, hK.next bV, hn, hq, h2, hok⟩)
  have HB := Lib.hid bV
  have HSz := Lib.hid (show ((w.alloc (.cells #[.slice A n ca] 22)).alloc (.cells #[.slice K q ck] 28)).heap.size = w.heap.size + 2 by simp)
  clear bV bx by' hA hK hn hq hok
  have hn9 : (n : Int) ≤ 60 := by omega
  have hmk := make26 n (by omega) ((w.alloc (.cells #[.slice A n ca] 22)).alloc (.cells #[.slice K q ck] 28))
  rw [HSz.out] at hmk
  have hS0 : Hid (SS ((w.alloc (.cells #[.slice A n ca] 22)).alloc (.cells #[.slice K q ck] 28)) (w.heap.size + 2) n (((w.alloc (.cells #[.slice A n ca] 22)).alloc (.cells #[.slice K q ck] 28)).alloc (.cells (natA (List.replicate n 0)) 3)) (List.replicate n 0)) := by
    refine ⟨(Off.refl _ _).next ((Below.refl _ _).alloc (Nat.le_refl _) _), ?_, by simp⟩
    have := Blk.new ((w.alloc (.cells #[.slice A n ca] 22)).alloc (.cells #[.slice K q ck] 28)) 3 (natA (List.replicate n 0))
    rw [HSz.out] at this; exact this
  go_enter Try.func9, Try.ntmps9
  go_wp2_with fail
  generalize ((w.alloc (.cells #[.slice A n ca] 22)).alloc (.cells #[.slice K q ck] 28)) = V at *
  obtain ⟨g, hg⟩ : ∃ g, w.heap.size + 2 = g := ⟨_, rfl⟩
  rw [hg] at hS0 HSz ⊢
  have HG := Lib.hid hg
  clear hmk hg
  go_loopw [12] (fun i wr => ∃ k : Nat, k ≤ n ∧ i = .int .i64 k ∧ Hid (∃ d, SS V g n wr d ∧ ∀ p, p < k → D d p = p)) (fun i _ => n - (intOf i).toNat)
  case atStart => exact ⟨0, Nat.zero_le _, rfl, ⟨_, hS0.out, fun p hp => by omega⟩⟩
  case round =>
    obtain ⟨k, hk, rfl, hS⟩ := hrel
    obtain ⟨d, s1, i1⟩ := hS.out
    have HS1 := Lib.hid s1
    have HI1 := Lib.hid i1
    by_cases hlt : k < n
    · have c0 := s1.cell hlt
      have f0 := s1.blk.frozen k
      have lg := s1.blk.lt
      have hk0 : (0 : Int) ≤ (k : Int) := by omega
      have hkn : (k : Int) < (n : Int) := by omega
      have HNX := Lib.hid (show ∃ e, SS V g n (wr.setCell ⟨g, k, none⟩ (.int .i64 (k : Int))) e ∧ ∀ p, p < k + 1 → D e p = p from ⟨_, s1.set k k, fun p hp => by
        rw [D_set (by rw [s1.len]; exact hlt)]
        split
        · rename_i e; exact e.symm
        · exact i1 p (by omega)⟩)
      clear s1 i1 hS hS0
      go_wp2_with fail
      go_roundw
      case rel => exact ⟨k + 1, by omega, by go_num, HNX.out⟩
      case measure => simp [intOf]; omega
    · have hkk : k = n := by omega
      subst hkk
      have hkn : ¬ (k : Int) < (k : Int) := by omega
      have hC : CmpC V g k (cmpAt rs ks) w.heap.size (w.heap.size + 1) := fun W hW i j hi hj =>
        clo_c W w.heap.size (w.heap.size + 1) A K k ca q ck rs ks (HClo.out.next (hW.below (by have := HSz.out; omega))) i j hi hj
      have hO : Ord (cmpAt rs ks) k := ord_of (pre_cmpK ks) (fun i => rowAt rs i) k
      have HCC := Lib.hid (sort_c V g k k w.heap.size (w.heap.size + 1) (cmpAt rs ks) hC hO h1 d wr HS1.out HI1.out)
      clear hC hO s1 i1 hS hS0
      go_wp2_with fail
      refine HCC.out.mono ?_
      rintro e w1 ⟨rfl, d2, s2, p2, t2⟩
      have HF : Hid (w.heap.size ≤ g ∧ Below w.heap.size w w1 ∧ Blk w1 g 3 (natA d2) ∧ Sorted (cmpAt rs ks) k d2) := by
        refine ⟨by have := HG.out; omega, HB.out.trans ((s2.off.below (by have := HSz.out; omega)).mono HB.out.size), s2.blk, ?_, t2⟩
        have hdr : d = List.range k := by
          refine D_ext (by rw [HS1.out.len, List.length_range]) (fun p hp => ?_)
          rw [HS1.out.len] at hp
          rw [HI1.out p hp]
          simp [D, List.getD, hp]
        rw [hdr] at p2
        exact p2
      clear s2 p2 t2 HCC
      go_wp2_with fail
      go_ret
      exact ⟨g, d2, k, rfl, HF.out.1, HF.out.2.1, HF.out.2.2.1, HF.out.2.2.2⟩
end Go.Proofs.Ytifdpcjfjoekmaa
