/-
  strconv.FormatUint: its contract. Condition: the table of powers of ten reads as the program lays it.
  num.digitsOf: its contract. Condition: the table of powers of ten reads as the program lays it.
  num.spread: its contract. Condition: the table of powers of ten reads as the program lays it.
  num.Add: its contract. Condition: the table of powers of ten reads as the program lays it; the numbers are right.
-/
import Derived.Test.YtdmbppgogdkpdaaGreatDoorX6
import Derived.Test.YtdmbppgogdkpdaaGreatDoorXS
import Derived.Lib.ItoaMem
import Derived.Lib.AppendIntMem
import Derived.Lib.OthersKept
import Derived.Lib.LaidTab
import Derived.BigCall
import Derived.BigGuard
import Derived.Lib.AppendZerosOnto
set_option linter.unusedSectionVars false
namespace Go.Proofs.YtdmbppgogdkpdaaGreatDoor
open Go.RowKit Go.Sort
abbrev PowT (w : World) : Prop := Lib.TabIs Tryz.prog w "internal/strconv.uint64pow10" .u64 Lib.pow10Tab
set_option maxHeartbeats 6400000 in
set_option maxRecDepth 100000 in
theorem fmtu_inner (u : Nat) (hu64 : u < 18446744073709551616) (w : World) (htab : PowT w) :
    Calls Tryz.prog 310 #[.int .u64 u, .int .i64 10] w fun e w' => e = .returned (.string ⟨(Lib.decDigits u).toArray⟩) ∧ Below w.heap.size w w' := by
  by_cases hs : u < 100
  · have hsi : (u : Int) < 100 := by omega
    have HB := Lib.hid (Below.refl w.heap.size w)
    go_enter Tryz.func310, Tryz.ntmps310
    go_wp2_with (go_at_call 340; refine (Tryz.internal_strconv_small u hs _).mono ?_; rintro e w' ⟨rfl, rfl⟩)
    go_ret
    exact ⟨rfl, HB.out⟩
  · have hu1 : 1 ≤ u := by omega
    have hsi : ¬ (u : Int) < 100 := by omega
    have hnd20 : Lib.nDigits u ≤ 20 := by have := Lib.numDigits_eq u hu1 hu64; split at this <;> omega
    have hal : Tryz.prog.arrayLen 272 = 24 := by simp [Program.arrayLen, Tryz.underlying272]
    have hsl1 : ∀ W, (Instr.sliceAt 272 (.pointer (some ⟨w.heap.size, 0, none⟩)) none (some (.int .i64 (Lib.nDigits u : Int))) none).run Tryz.prog W = .ok (.slice (some ⟨w.heap.size, 0, none⟩) (Lib.nDigits u) 24) W := fun W => by
      rw [run_sliceAt_array_h W 272 ⟨w.heap.size, 0, none⟩ (by simp [Program.arrayLen, Program.elem, Tryz.underlying272]) .i64 (Lib.nDigits u : Int) (by omega) (by rw [hal]; omega)]
      go_simp
    have hH0 := Lib.holds_zero0 w 272 (Lib.nDigits u) (by omega)
    have hfmt := Tryz.internal_strconv_formatBase10 w.heap.size 0 24 u (Array.replicate (Lib.nDigits u) 0) (w.alloc (.cells Lib.zeros24 272)) hH0 (by rw [Array.size_replicate]; exact Lib.lt_pow_nDigits u) hu64 (by rw [Array.size_replicate]; omega)
    rw [Array.size_replicate] at hfmt
    have HH0 := Lib.hid hH0
    have HF := Lib.hid hfmt
    clear hH0 hal hfmt
    go_enter Tryz.func310, Tryz.ntmps310
    go_wp2_with (go_at_call 341; refine (Tryz.internal_strconv_numDigits u hu1 hu64 _ (Lib.tabIs_alloc htab _)).mono ?_; rintro e w' ⟨rfl, rfl⟩)
    refine HF.out.mono ?_
    rintro e w' ⟨rfl, k, v', dk, rfl, hF⟩
    have hcv : (convert 124 9 (.slice (some ⟨w.heap.size, 0, none⟩) (Lib.nDigits u) 24)).run Tryz.prog ((putRow (fun (b : UInt8) => Value.int .u8 (b.toNat : Int)) (w.alloc (.cells Lib.zeros24 272)) w.heap.size 0 dk).drewN k) = .ok (.string ⟨(Lib.decDigits u).toArray⟩) ((putRow (fun (b : UInt8) => Value.int .u8 (b.toNat : Int)) (w.alloc (.cells Lib.zeros24 272)) w.heap.size 0 dk).drewN k) := by
      have h := run_convert_bytes_back (P := Tryz.prog) ((putRow (fun (b : UInt8) => Value.int .u8 (b.toNat : Int)) (w.alloc (.cells Lib.zeros24 272)) w.heap.size 0 dk).drewN k) 124 9 5 ⟨w.heap.size, 0, none⟩ 24 (Lib.decDigits u) Tryz.underlying124 Tryz.underlying5 Tryz.underlying9 (fun j hj => by
        rw [Lib.row_is_numeral hF j hj, Lib.add_plain, World.cell?_drewN]
        exact cell?_putRow (fun (b : UInt8) => Value.int .u8 (b.toNat : Int)) _ w.heap.size 0 _ dk HH0.out (by rw [hF.size, Array.size_replicate]) j (by rw [hF.size]; rw [Lib.decDigits_length] at hj; exact hj))
      rw [Lib.decDigits_length] at h
      exact h
    go_wp2
    go_ret
    obtain ⟨os, eo⟩ := Lib.fin_at w (.cells Lib.zeros24 272) dk k 0
    refine ⟨rfl, ?_⟩
    have := Lib.below_grow w.heap.size w (Nat.le_refl _) k os
    rw [← eo] at this
    exact this
set_option maxRecDepth 100000 in
set_option maxHeartbeats 4000000 in
theorem fmtu_c (u : Nat) (hu64 : u < 18446744073709551616) (w : World) (htab : PowT w) :
    Calls Tryz.prog 227 #[.int .u64 u, .int .i64 10] w fun e w' => e = .returned (.string ⟨(Lib.decDigits u).toArray⟩) ∧ Below w.heap.size w w' := by
  have H := Lib.hid (fmtu_inner u hu64 w htab)
  clear htab
  go_enter Tryz.func227, Tryz.ntmps227
  go_wp2_with (go_at_call 310; refine H.out.mono ?_; rintro e w' ⟨rfl, hB⟩)
  go_ret
  exact ⟨rfl, hB⟩
theorem PowT.next {w w' : World} (h : PowT w) (hb : Below w.heap.size w w') : PowT w' := (Lib.tabBelow_of_tabIs h) w' hb
end Go.Proofs.YtdmbppgogdkpdaaGreatDoor
namespace Go.Proofs.YtdmbppgogdkpdaaGreatDoor
open Go.RowKit
def digL (u : Nat) : List Int := (Lib.decDigits u).map fun c => (c.toNat : Int) - 48
theorem digL_len (u : Nat) : (digL u).length = Lib.nDigits u := by rw [digL, List.length_map, Lib.decDigits_length]
theorem dec_in (u : Nat) : ∀ c ∈ Lib.decDigits u, 48 ≤ c.toNat ∧ c.toNat ≤ 57 := by
  intro c hc
  rw [Lib.decDigits_eq] at hc
  obtain ⟨j, _, rfl⟩ := List.mem_map.1 hc
  unfold Lib.dg
  have : 48 + u / 10 ^ (Lib.nDigits u - 1 - j) % 10 < 256 := by omega
  rw [UInt8.toNat_ofNat', Nat.mod_eq_of_lt this]
  omega
theorem digL_in (u : Nat) : ∀ b ∈ digL u, 0 ≤ b ∧ b ≤ 9 := by
  intro b hb
  obtain ⟨c, hc, rfl⟩ := List.mem_map.1 hb
  have := dec_in u c hc
  omega
theorem nDigits_20 {u : Nat} (h : u < 18446744073709551616) : Lib.nDigits u ≤ 20 := by
  rcases Nat.eq_zero_or_pos u with h0 | h0
  · subst h0; unfold Lib.nDigits; simp
  · have := Lib.numDigits_eq u h0 h; split at this <;> omega
theorem roomB1 {W : World} {B o k n X' : Nat} {d : Int} {cs : Array Value} (hB : Blk W B 5 cs) (hk : k + 1 ≤ n) (hs : o + k < cs.size) (hd : W.cell? ⟨X', 0, none⟩ = some (.int .u8 d)) (ty : TypeId) :
    (Builtin.append_ #[124, 124] ty #[.slice (some ⟨B, o, none⟩) k n, .slice (some ⟨X', 0, none⟩) 1 1]).run Tryz.prog W = .ok (.slice (some ⟨B, o, none⟩) (k + 1) n) (W.setCell ⟨B, o + k, none⟩ (.int .u8 d)) := by
  obtain ⟨i0, hi, hz0, hz1, hz2⟩ := info_parts Tryz.info5n
  have hbt : BytesAt W X' 0 [d] := fun i b hb => by
    cases i with
    | zero => cases hb; exact hd
    | succ i => simp at hb
  have hr := run_append_room_src (P := Tryz.prog) W 124 124 ty 5 i0 Tryz.underlying124 hi B o k n (.slice (some ⟨X', 0, none⟩) 1 1) 1 (bytesV [d]) (by rw [hz1]; exact srcB (l := [d]) hbt rfl) hk (fun j hj => by
      have : j = 0 := by simpa [bytesV] using hj
      subst this
      rw [hB.cell, hz1, Nat.mul_one, Nat.add_zero, Array.getElem?_eq_getElem hs]; rfl) (fun j _ => hB.frozen _)
  rw [hz1, Nat.mul_one] at hr
  exact hr
def DigsP (w : World) (u : Nat) (e : Ending) (w' : World) : Prop := ∃ B, e = .returned (.slice (some ⟨B, 0, none⟩) (Lib.nDigits u) (Lib.nDigits u)) ∧ w.heap.size ≤ B ∧ BSl w' B 0 (Lib.nDigits u) (Lib.nDigits u) (digL u) ∧ Below w.heap.size w w'
set_option maxRecDepth 100000 in
set_option maxHeartbeats 4000000 in
theorem digitsOf_c (u : Nat) (hu : u < 18446744073709551616) (w : World) (htab : PowT w) : Calls Tryz.prog 113 #[.int .u64 u] w (DigsP w u) := by
  have HFM := Lib.hid (fmtu_c u hu w htab)
  have hn := nDigits_20 hu
  have hsz : (⟨(Lib.decDigits u).toArray⟩ : ByteArray).size = Lib.nDigits u := by
    show (Lib.decDigits u).toArray.size = _
    rw [List.size_toArray, Lib.decDigits_length]
  have hget : Hid (∀ (k : Nat) (hk : k < (⟨(Lib.decDigits u).toArray⟩ : ByteArray).size), ((⟨(Lib.decDigits u).toArray⟩ : ByteArray)[k]'hk).toNat = ((digL u).getD k 0).toNat + 48 ∧ ((digL u).getD k 0).toNat ≤ 9) := by
    intro k hk
    have hk' : k < (Lib.decDigits u).length := by rw [hsz, ← Lib.decDigits_length] at hk; exact hk
    have e1 : (⟨(Lib.decDigits u).toArray⟩ : ByteArray)[k]'hk = (Lib.decDigits u)[k] := rfl
    have e2 : (digL u).getD k 0 = ((Lib.decDigits u)[k].toNat : Int) - 48 := by
      rw [List.getD_eq_getElem?_getD, digL, List.getElem?_map, List.getElem?_eq_getElem hk']; rfl
    have := dec_in u _ (List.getElem_mem hk')
    rw [e1, e2]
    omega
  have HL : Hid ((digL u).length = Lib.nDigits u) := digL_len u
  have hdg : Hid (∀ b ∈ digL u, 0 ≤ b ∧ b ≤ 9) := digL_in u
  generalize (⟨(Lib.decDigits u).toArray⟩ : ByteArray) = s at *
  obtain ⟨n, hnn⟩ : ∃ n, Lib.nDigits u = n := ⟨_, rfl⟩
  rw [hnn] at hn hsz HL
  have HNN := Lib.hid hnn
  clear hnn
  clear htab
  have hsz' : (s.size : Int) = n := by rw [hsz]
  have HS := Lib.hid hsz
  have hmk : ∀ W, (Instr.makeSlice 124 (.int .i64 0) (.int .i64 (n : Int))).run Tryz.prog W = .ok (.slice (some ⟨W.heap.size, 0, none⟩) 0 n) (W.alloc (.cells (bytesV (List.replicate n 0)).toArray 5)) := fun W => makeB 0 n (Nat.zero_le _) (by omega) W
  clear hsz
  go_enter Tryz.func113, Tryz.ntmps113
  go_wp2_with (go_at_call 227; refine HFM.out.mono ?_; rintro e w1 ⟨rfl, hB1⟩)
  have hB2 := Lib.hid hB1
  clear hB1
  have hIx : (w1.alloc (.cells (bytesV (List.replicate n 0)).toArray 5)).heap.size = w1.heap.size + 1 := by simp
  go_loopw [4] (fun x wr => ∃ (k : Nat), x = .slice (some ⟨w1.heap.size, 0, none⟩) k n ∧ k ≤ n ∧ Hid (wr.heap[w1.heap.size + 1]? = some (.stringIter s k)) ∧ Hid (Blk wr w1.heap.size 5 (bytesV ((digL u).take k ++ List.replicate (n - k) 0)).toArray) ∧ Hid (Below w1.heap.size w1 wr)) (fun x _ => match x with | .slice _ m _ => n - m | _ => 0)
  case atStart =>
    refine ⟨0, rfl, Nat.zero_le _, ?_, ?_, ?_⟩
    · have := World.iter_heap (w1.alloc (.cells (bytesV (List.replicate n 0)).toArray 5)) s 0
      rw [hIx] at this
      exact this
    · exact (Blk.new w1 5 _).alloc _
    · exact ((Below.refl _ w1).alloc (Nat.le_refl _) _).alloc (by simp) _
  case round =>
    obtain ⟨k, rfl, hk, hit, hbk, hbl⟩ := hrel
    clear hIx
    by_cases hkn : k = n
    · subst hkn
      have hnx : ∀ ty, (Instr.next (.pointer (some ⟨w1.heap.size + 1, 0, none⟩)) true ty).run Tryz.prog wr = .ok (.tuple #[.bool false]) wr := fun ty => Lib.run_next_end_at wr _ s k ty hit.out (by have := HS.out; omega)
      go_wp2_with fail
      go_ret
      have HBS : BSl wr w1.heap.size 0 k k (digL u) := ⟨HL.out, Nat.le_refl _, by omega, _, hbk.out, fun i b hb => by
        rw [Nat.zero_add, List.getElem?_toArray]
        refine bytesV_get ?_
        rw [Nat.sub_self, List.replicate_zero, List.append_nil, List.take_of_length_le (by have := HL.out; omega)]
        exact hb⟩
      exact ⟨w1.heap.size, by rw [HNN.out]; rfl, hB2.out.size, by rw [HNN.out]; exact HBS, hB2.out.trans (hbl.out.mono hB2.out.size)⟩
    · obtain ⟨d, hd⟩ : ∃ d, ((digL u).getD k 0).toNat = d := ⟨_, rfl⟩
      have hks : k < s.size := by have := HS.out; omega
      have hkl : k < n := by omega
      have hg2 := hget.out k hks
      rw [hd] at hg2
      have HK := Lib.hid hkn
      have hd9 := hg2.2
      have hld : (digL u)[k]? = some (d : Int) := by
        have hl := HL.out
        have e := List.getElem?_eq_getElem (l := digL u) (i := k) (by omega)
        rw [List.getD_eq_getElem?_getD, e, Option.getD_some] at hd
        have := hdg.out _ (List.getElem_mem (l := digL u) (n := k) (by omega))
        rw [e]; congr 1; omega
      have HLD := Lib.hid hld
      have hnx : ∀ ty, (Instr.next (.pointer (some ⟨w1.heap.size + 1, 0, none⟩)) true ty).run Tryz.prog wr = .ok (.tuple #[.bool true, .int .i64 k, .int .i32 ((d : Int) + 48)]) (wr.iterAt (w1.heap.size + 1) s (k + 1)) := fun ty => by
        have := Lib.run_next_ascii_at wr (w1.heap.size + 1) s k ty hit.out hks (by omega) (P := Tryz.prog)
        rw [hg2.1] at this
        rw [this]; rfl
      have HI2 := Lib.hid (Lib.iterAt_heap wr (w1.heap.size + 1) s k (k + 1) hit.out)
      have HB2 : Hid (Blk (wr.iterAt (w1.heap.size + 1) s (k + 1)) w1.heap.size 5 (bytesV ((digL u).take k ++ List.replicate (n - k) 0)).toArray) := hbk.out.kept (Lib.iterAt_other _ _ _ _ _ (by omega))
      have HW2 := Lib.hid (Lib.below_iterAt hbl.out (k := w1.heap.size + 1) (by omega) s (k + 1))
      clear hd hg2 hld hit hbk hbl hks hkn
      generalize wr.iterAt (w1.heap.size + 1) s (k + 1) = wi at *
      have hbs := bsB1 wi (d : Int)
      have hd0 := (Blk.new wi 5 (bytesV [(d : Int)]).toArray).cell 0
      have hap := fun ty => roomB1 (o := 0) (k := k) (n := n) (X' := wi.heap.size) (d := (d : Int)) (HB2.out.alloc (.cells #[.int .u8 (d : Int)] 5)) (by omega) (by have := HL.out; simp [bytesV]; omega) hd0 ty
      have HF2 := Lib.hid ((HB2.out.alloc (.cells #[.int .u8 (d : Int)] 5)).store (0 + k) (.int .u8 (d : Int)))
      have HW3 := Lib.hid (((HW2.out.alloc HW2.out.size (.cells #[.int .u8 (d : Int)] 5)).setCell (p := ⟨w1.heap.size, 0 + k, none⟩) (Nat.le_refl _) (.int .u8 (d : Int))))
      have HI3 : Hid (((wi.alloc (.cells #[.int .u8 (d : Int)] 5)).setCell ⟨w1.heap.size, 0 + k, none⟩ (.int .u8 (d : Int))).heap[w1.heap.size + 1]? = some (.stringIter s (k + 1))) := by
        show _ = _
        rw [Below.heap_setCell _ _ _ _ (by simp), Below.heap_alloc _ _ _ (Array.getElem?_eq_some_iff.1 HI2.out).1]
        exact HI2.out
      simp only [Nat.zero_add] at hap HF2 HW3 HI3
      have hap1 := hap 124
      clear hap hd0
      go_wp2_with (at_builtin; refine wpList_append_run rfl _ _ _ _ rfl rfl rfl hap1 ?_)
      refine ⟨⟨k + 1, rfl, by omega, HI3.out, ?_, HW3.out⟩, ?_⟩
      · have hF := HF2.out
        rw [bytesV_set] at hF
        have e : ((digL u).take k ++ List.replicate (n - k) 0).set k (d : Int) = (digL u).take (k + 1) ++ List.replicate (n - (k + 1)) 0 := by
          have hl := HL.out
          have e1 : n - k = (n - (k + 1)) + 1 := by omega
          have e2 : ((digL u).take k).length = k := by simp; omega
          rw [e1, List.replicate_succ, List.set_append, if_neg (by omega), e2, Nat.sub_self, List.set_cons_zero, List.take_add_one, HLD.out, Option.toList_some, List.append_assoc]
          rfl
        rw [e] at hF
        exact hF
      · show n - (k + 1) < n - k
        omega
end Go.Proofs.YtdmbppgogdkpdaaGreatDoor
namespace Go.Proofs.YtdmbppgogdkpdaaGreatDoor
open Go.RowKit
theorem zerosNone {w : World} {X n c : Nat} (ty : TypeId) (hn : n ≤ c) : (Builtin.append_ #[124, 3] ty #[.slice (some ⟨X, 0, none⟩) n c, .int .i64 0]).run Tryz.prog w = .ok (.slice (some ⟨X, 0, none⟩) n c) w := by
  obtain ⟨i0, hi, hz0, hz1, hz2⟩ := info_parts Tryz.info5n
  have hw : IntKind.i64.wrap 0 = 0 := by decide
  simp [Builtin.append_, run_underlying Tryz.underlying124, run_underlying Tryz.underlying3, sizeOf, typeInfo, zeroValue, hi, hz0, asInt, asIntOf, hw, hn, storeCells]
theorem zerosSome {w : World} {X n c k : Nat} {l : List Int} (h : BytesAt w X 0 l) (hl : l.length = n) (hk : 0 < k) (hg : c < n + k) (hm : n + k ≤ 1000000) (ty : TypeId) :
    ∃ cap cs, (Builtin.append_ #[124, 3] ty #[.slice (some ⟨X, 0, none⟩) n c, .int .i64 k]).run Tryz.prog w = .ok (.slice (some ⟨w.heap.size, 0, none⟩) (n + k) cap) (w.drew.alloc (.cells cs 5)) ∧ n + k ≤ cap ∧ cap ≤ 9223372036854775807 ∧ (∀ (i : Nat) (b : Int), (l ++ List.replicate k 0)[i]? = some b → cs[i]? = some (.int .u8 b)) := by
  obtain ⟨i0, hi, hz0, hz1, hz2⟩ := info_parts Tryz.info5n
  have hr := Lib.run_append_grow_zeros (P := Tryz.prog) w 124 3 ty 5 i0 (.int .u8 0) .i64 .i64 Tryz.underlying124 Tryz.underlying3 hi hz0 (some ⟨X, 0, none⟩) n c (bytesV l) (by rw [hz1]; exact firstCells_bytes h hl) k hk (by rw [hz1]; omega) hg (by omega) (by rw [hz2]; omega) (growslice_fits hg (by rw [hz2]; omega))
  refine ⟨_, _, hr, grownCap_ge _ _ _ _, grownCap_le_maxLen _ _ _ _ (by unfold maxLen; omega), fun i b hb => ?_⟩
  have hlt := (List.getElem?_eq_some_iff.1 hb).1
  rw [List.length_append, List.length_replicate] at hlt
  have hz : Builtin.zeroCells (Value.cells (.int .u8 0)) k = (bytesV (List.replicate k 0)).toArray := by
    apply Array.ext
    · simp [Builtin.zeroCells, bytesV, Value.cells]
    · intro j h1 h2
      simp [Builtin.zeroCells, bytesV, Value.cells, Nat.mod_one]
  rw [Array.getElem?_append_left (by simp [hz, bytesV]; omega), hz]
  have : (bytesV l).toArray ++ (bytesV (List.replicate k 0)).toArray = (bytesV (l ++ List.replicate k 0)).toArray := by rw [bytesV_append]; simp
  rw [this, List.getElem?_toArray]
  exact bytesV_get hb
def spreadF (m e low : Int) : List Int := digL m.natAbs ++ List.replicate (e - low).toNat 0
theorem spreadF_in (m e low : Int) : ∀ b ∈ spreadF m e low, 0 ≤ b ∧ b ≤ 9 := by
  intro b hb
  rcases List.mem_append.1 hb with h | h
  · exact digL_in _ b h
  · rw [(List.mem_replicate.1 h).2]; omega
def SprP (w : World) (l : List Int) (e : Ending) (w' : World) : Prop := ∃ B c, e = .returned (.slice (some ⟨B, 0, none⟩) l.length c) ∧ w.heap.size ≤ B ∧ B < w'.heap.size ∧ BytesAt w' B 0 l ∧ Below w.heap.size w w'
set_option maxRecDepth 100000 in
set_option maxHeartbeats 4000000 in
theorem spread_c (m e low : Int) (h1 : -9223372036854775808 ≤ m) (h2 : m ≤ 9223372036854775807) (h3 : low ≤ e) (h4 : e - low ≤ 1000) (h5 : -1000000 ≤ low) (h6 : e ≤ 1000000) (w : World) (htab : PowT w) :
    Calls Tryz.prog 105 #[.agg #[.int .i64 m, .int .i64 e], .int .i64 low] w (SprP w (spreadF m e low)) := by
  have HT := Lib.hid htab
  have HB := Lib.hid (((Below.refl _ w).alloc (Nat.le_refl _) (.cells #[.int .i64 m, .int .i64 e] 39)).drew)
  have HC : AllCells (w.alloc (.cells #[.int .i64 m, .int .i64 e] 39)).drew [(⟨w.heap.size, 0, none⟩, .int .i64 m), (⟨w.heap.size, 1, none⟩, .int .i64 e)] := ⟨(Blk.new w 39 #[.int .i64 m, .int .i64 e]).cell 0, (Blk.new w 39 #[.int .i64 m, .int .i64 e]).cell 1, trivial⟩
  obtain ⟨k, hk⟩ : ∃ k : Nat, (e - low).toNat = k := ⟨_, rfl⟩
  have hkz : e - low = (k : Int) := by omega
  have HF : Hid (spreadF m e low = digL m.natAbs ++ List.replicate k 0) := by show _ = _; rw [spreadF, hk]
  clear htab hk
  go_enter Tryz.func105, Tryz.ntmps105
  go_wp2_with fail
  refine region_free _ [0, 1, 4, 5, 6, 7] 4 (by kernel_rfl) (by kernel_rfl) (by kernel_rfl) (by kernel_rfl) (by kernel_rfl) (fun _ _ _ _ _ h => h) HC ?_
  intro hne hu
  simp only [AllCells] at hu
  simp only [pick, List.take_succ_cons, List.take_zero, List.drop_succ_cons, List.drop_zero, List.cons_append, List.nil_append]
  repeat (go_big_quiet_step (fail))
  refine wpQuiet_nil ?_
  clear hne hu
  refine anyN_oneL 2 (by kernel_rfl) ?_
  simp only [List.take_succ_cons, List.take_zero, List.drop_succ_cons, List.drop_zero]
  go_wp2_with (go_at_call 111; refine (sizeAny_c _ h1 h2 _).mono ?_; rintro x w' ⟨rfl, rfl⟩)
  refine And.intro (fun _ => HC) ?_
  refine anyN_oneL 3 (by kernel_rfl) ?_
  simp only [List.take_succ_cons, List.take_zero, List.drop_succ_cons, List.drop_zero]
  have HTP := HT.out.next (HB.out)
  have hmn : m.natAbs < 18446744073709551616 := by omega
  have HDG := Lib.hid (digitsOf_c m.natAbs hmn _ HTP)
  have hnd := nDigits_20 hmn
  clear HTP
  have hmc : ((m.natAbs : Nat) : Int) = (m.natAbs : Int) := rfl
  clear hmc
  go_wp2_with (go_at_call 113; refine HDG.out.mono ?_; rintro x w3 ⟨B, rfl, hge, hbs, hbl⟩)
  have HC3 := AllCells.below HC hbl
  have HB3 := Lib.hid (HB.out.trans (hbl.mono HB.out.size))
  have HGE := Lib.hid (Nat.le_trans HB.out.size hge)
  have HBS := Lib.hid hbs
  have hbt := hbs.bytes
  clear hge hbs hbl HB HC
  refine And.intro (fun _ => HC3) ?_
  refine anyN_oneL 8 (by kernel_rfl) ?_
  simp only [List.take_succ_cons, List.take_zero, List.drop_succ_cons, List.drop_zero]
  by_cases hk0 : k = 0
  · subst hk0
    have hz0 : e - low = 0 := by simpa using hkz
    have hap := zerosNone (w := w3) (X := B) (n := Lib.nDigits m.natAbs) (c := Lib.nDigits m.natAbs) 124 (Nat.le_refl _)
    have HK := Lib.hid hkz
    clear hkz hbt
    go_wp2_with (at_builtin; refine wpList_append_run rfl _ _ _ _ rfl rfl rfl hap ?_)
    refine And.intro (fun _ => HC3) ?_
    refine anyN_oneL 9 (by kernel_rfl) ?_
    simp only [List.take_succ_cons, List.take_zero, List.drop_succ_cons, List.drop_zero]
    go_wp2_with fail
    refine And.intro (fun _ => HC3) ?_
    refine ⟨by kernel_rfl, ?_⟩
    go_wp2_with fail
    go_ret
    have hl : (spreadF m e low).length = Lib.nDigits m.natAbs := by rw [HF.out]; simp [digL_len]
    refine ⟨B, Lib.nDigits m.natAbs, ?_, HGE.out, HBS.out.lt, ?_, HB3.out⟩
    · rw [hl]; rfl
    · rw [HF.out, List.replicate_zero, List.append_nil]; exact HBS.out.bytes
  · obtain ⟨cap, cs, hap, hq1, hq2, hq3⟩ := zerosSome (c := Lib.nDigits m.natAbs) hbt (digL_len _) (Nat.pos_of_ne_zero hk0) (by omega) (by omega) 124
    have hbl4 := (((Below.refl w3.heap.size w3).drew).alloc (Nat.le_refl _) (.cells cs 5))
    have HC4 := AllCells.below HC3 hbl4
    have HB4 := Lib.hid (HB3.out.trans (hbl4.mono HB3.out.size))
    have HQ := Lib.hid hq3
    have HN := Lib.hid (Blk.new w3.drew 5 cs)
    clear hq3 hbl4 hbt HC3
    go_wp2_with (at_builtin; refine wpList_append_run rfl _ _ _ _ rfl rfl rfl hap ?_)
    refine And.intro (fun _ => HC4) ?_
    refine anyN_oneL 9 (by kernel_rfl) ?_
    simp only [List.take_succ_cons, List.take_zero, List.drop_succ_cons, List.drop_zero]
    go_wp2_with fail
    refine And.intro (fun _ => HC4) ?_
    refine ⟨by kernel_rfl, ?_⟩
    go_wp2_with fail
    go_ret
    have hl : (spreadF m e low).length = Lib.nDigits m.natAbs + k := by rw [HF.out]; simp [digL_len]
    refine ⟨w3.heap.size, cap, ?_, HB3.out.size, HN.out.lt, ?_, HB4.out⟩
    · rw [hl]; rfl
    · intro i b hb
      rw [HF.out] at hb
      rw [Nat.zero_add]
      exact (HN.out.cell i).trans (HQ.out i b hb)
end Go.Proofs.YtdmbppgogdkpdaaGreatDoor
namespace Go.Proofs.YtdmbppgogdkpdaaGreatDoor
open Go.RowKit
theorem sett_in (neg : Bool) (s : List Int) : ∀ (i : Nat) (c : Int) (out : List Int), (∀ b ∈ out, 0 ≤ b ∧ b ≤ 255) → ∀ b ∈ sett neg s i c out, 0 ≤ b ∧ b ≤ 255
  | 0, _, _, h => h
  | i + 1, c, out, h => by
    rw [sett]
    refine sett_in neg s i _ _ fun b hb => ?_
    rcases List.mem_or_eq_of_mem_set hb with h1 | h1
    · exact h b h1
    · omega
theorem settF_in (s : List Int) : ∀ b ∈ settF s, 0 ≤ b ∧ b ≤ 255 := sett_in _ _ _ _ _ fun b hb => by rw [(List.mem_replicate.1 hb).2]; omega
theorem settF_len (s : List Int) : (settF s).length = s.length := by rw [settF, sett_len]; simp
theorem gath_small (less : Bool) : ∀ (ds s : List Int) (a : Nat) (n : Int), 0 ≤ n → Small n s → (∀ b ∈ ds, 0 ≤ b ∧ b ≤ 255) → Small (n + 255 * ds.length) (gath less s a ds)
  | [], s, _, n, _, h, _ => by simpa [gath] using h
  | d :: ds, s, a, n, h0, h, hb => by
    rw [gath]
    have h1 := h.getD h0 a
    have h2 := hb d (by simp)
    have h3 : Small (n + 255) (s.set a (if less = true then s.getD a 0 - d else s.getD a 0 + d)) := fun x hx => by
      rcases List.mem_or_eq_of_mem_set hx with h4 | h4
      · have := h x h4; omega
      · rw [h4]; split <;> omega
    have := gath_small less ds _ (a + 1) (n + 255) (by omega) h3 fun b h => hb b (by simp [h])
    rw [List.length_cons]
    intro x hx
    have := this x hx
    omega
def sumF (m1 e1 m2 e2 : Int) : List Int :=
  let low := min e1 e2
  let x := spreadF m1 e1 low
  let y := spreadF m2 e2 low
  let n := max x.length y.length + 1
  gath (decide (m2 < 0)) (gath (decide (m1 < 0)) (List.replicate n 0) (n - x.length) x) (n - y.length) y
noncomputable def addF (m1 e1 m2 e2 : Int) : Option (Int × Int) := roundF (negF (sumF m1 e1 m2 e2)) (settF (sumF m1 e1 m2 e2)) (min e1 e2)
theorem rightB_c (m e : Int) (h : RightN m e) (w : World) : Calls Tryz.prog 104 #[.agg #[.int .i64 m, .int .i64 e]] w fun x w' => x = .returned (.bool true) ∧ Below w.heap.size w w' :=
  (right_c m e h w).mono fun x w' ⟨hx, n, hw⟩ => ⟨hx, by subst hw; exact belowN ((Below.refl _ w).alloc (Nat.le_refl _) _) n⟩
theorem makeI (n : Nat) (hn : n ≤ 1000000) (w : World) : (Instr.makeSlice 119 (.int .i64 (n : Int)) (.int .i64 (n : Int))).run Tryz.prog w =
    .ok (.slice (some ⟨w.heap.size, 0, none⟩) n n) (w.alloc (.cells (intsV (List.replicate n 0)).toArray 3)) := by
  obtain ⟨i0, hi, hz0, hz1, hz2⟩ := info_parts Tryz.info3
  have h := run_make (P := Tryz.prog) w 119 3 i0 (.int .i64 0) Tryz.underlying119 hi hz0 .i64 .i64 n n (by omega) (by omega) (by rw [hz2]; omega) (by omega)
  rw [h]
  have e : madeCells (Value.cells (.int .i64 0)) (n * 1) = (intsV (List.replicate n 0)).toArray := by
    apply Array.ext
    · simp [size_madeCells, intsV]
    · intro j h1 h2
      have : j % 1 = 0 := Nat.mod_one _
      simp [madeCells, Value.cells, this, intsV]
  simp only [Int.toNat_natCast, hz1, e]
/-- The boxes of two numbers and of an answer. -/
structure Trip (w V : World) (m1 e1 m2 e2 : Int) : Prop where
  a : Blk V w.heap.size 39 #[.int .i64 m1, .int .i64 e1]
  b : Blk V (w.heap.size + 1) 39 #[.int .i64 m2, .int .i64 e2]
  c : Blk V (w.heap.size + 1 + 1) 39 #[.int .i64 0, .int .i64 0]
  below : Below w.heap.size w V
theorem Trip.next {w V V' : World} {m1 e1 m2 e2 : Int} (h : Trip w V m1 e1 m2 e2) (k : Below V.heap.size V V') : Trip w V' m1 e1 m2 e2 :=
  ⟨h.a.kept (k.block _ h.a.lt), h.b.kept (k.block _ h.b.lt), h.c.kept (k.block _ h.c.lt), h.below.trans (k.mono h.below.size)⟩
theorem Trip.only {w V V' : World} {m1 e1 m2 e2 : Int} (h : Trip w V m1 e1 m2 e2) {S : Nat} (k : Only S V V') (hS : w.heap.size + 1 + 1 < S) : Trip w V' m1 e1 m2 e2 :=
  ⟨h.a.kept (k.block _ h.a.lt (by omega)), h.b.kept (k.block _ h.b.lt (by omega)), h.c.kept (k.block _ h.c.lt (by omega)), k.to_below h.below (by omega)⟩
theorem Trip.start (w : World) (m1 e1 m2 e2 : Int) : Trip w (((w.alloc (.cells #[.int .i64 m1, .int .i64 e1] 39)).alloc (.cells #[.int .i64 m2, .int .i64 e2] 39)).alloc (.cells #[.int .i64 0, .int .i64 0] 39)) m1 e1 m2 e2 := by
  refine ⟨((Blk.new w 39 #[.int .i64 m1, .int .i64 e1]).alloc (.cells #[.int .i64 m2, .int .i64 e2] 39)).alloc (.cells #[.int .i64 0, .int .i64 0] 39), ?_, ?_, ((((Below.refl _ w).alloc (Nat.le_refl _) _).alloc (by simp) _).alloc (by simp; omega) _)⟩
  · have := (Blk.new (w.alloc (.cells #[.int .i64 m1, .int .i64 e1] 39)) 39 #[.int .i64 m2, .int .i64 e2]).alloc (.cells #[.int .i64 0, .int .i64 0] 39)
    simpa using this
  · have := (Blk.new ((w.alloc (.cells #[.int .i64 m1, .int .i64 e1] 39)).alloc (.cells #[.int .i64 m2, .int .i64 e2] 39)) 39 #[.int .i64 0, .int .i64 0])
    simpa using this
set_option maxRecDepth 100000 in
set_option maxHeartbeats 4000000 in
theorem add_c (m1 e1 m2 e2 : Int) (r1 : RightN m1 e1) (r2 : RightN m2 e2) (w : World) (htab : PowT w) :
    Calls Tryz.prog 62 #[.agg #[.int .i64 m1, .int .i64 e1], .agg #[.int .i64 m2, .int .i64 e2]] w fun x w' => x = .returned (optV (addF m1 e1 m2 e2)) ∧ Below w.heap.size w w' := by
  have HT := Lib.hid htab
  have R1 := Lib.hid r1
  have R2 := Lib.hid r2
  have l1 := r1.elo
  have l2 := r2.elo
  have t1 : e1 ≤ 40 := by
    by_cases h : m1 = 0
    · rw [r1.zero h]; omega
    · have := r1.top h; omega
  have t2 : e2 ≤ 40 := by
    by_cases h : m2 = 0
    · rw [r2.zero h]; omega
    · have := r2.top h; omega
  have i1 := r1.lo
  have i2 := r1.hi
  have i3 := r2.lo
  have i4 := r2.hi
  have T0 := Lib.hid (Trip.start w m1 e1 m2 e2)
  clear htab r1 r2
  obtain ⟨low, hlow⟩ : ∃ low, min e1 e2 = low := ⟨_, rfl⟩
  have lw1 : low ≤ e1 := by omega
  have lw2 : low ≤ e2 := by omega
  have lw3 : -40 ≤ low := by omega
  have HLOW := Lib.hid hlow
  go_enter Tryz.func62, Tryz.ntmps62
  go_wp2_with fail
  refine (rightB_c m1 e1 R1.out _).mono ?_
  rintro x w1 ⟨rfl, hb⟩
  have T1 := Lib.hid (T0.out.next hb)
  clear hb T0
  have c0 := T1.out.a.cell 0
  have c1 := T1.out.a.cell 1
  have c2 := T1.out.b.cell 0
  have c3 := T1.out.b.cell 1
  simp only [List.getElem?_toArray, List.getElem?_cons_zero, List.getElem?_cons_succ] at c0 c1 c2 c3
  go_wp2_with fail
  refine (rightB_c m2 e2 R2.out _).mono ?_
  rintro x w2 ⟨rfl, hb⟩
  have T2 := Lib.hid (T1.out.next hb)
  clear hb T1 c0 c1 c2 c3
  have c0 := T2.out.a.cell 0
  have c1 := T2.out.a.cell 1
  have c2 := T2.out.b.cell 0
  have c3 := T2.out.b.cell 1
  simp only [List.getElem?_toArray, List.getElem?_cons_zero, List.getElem?_cons_succ] at c0 c1 c2 c3
  go_wp2_with fail
  have T3 := Lib.hid (T2.out.next ((Below.refl _ w2).drew))
  have HC : AllCells w2.drew [(⟨w.heap.size, 0, none⟩, .int .i64 m1), (⟨w.heap.size, 1, none⟩, .int .i64 e1), (⟨w.heap.size + 1, 0, none⟩, .int .i64 m2), (⟨w.heap.size + 1, 1, none⟩, .int .i64 e2)] := ⟨c0, c1, c2, c3, trivial⟩
  have HX := Lib.hid (spread_c m1 e1 low (by omega) (by omega) lw1 (by omega) (by omega) (by omega) w2.drew (HT.out.next T3.out.below))
  clear c0 c1 c2 c3 T2
  refine region_free _ [0, 1, 3, 4] 4 (by kernel_rfl) (by kernel_rfl) (by kernel_rfl) (by kernel_rfl) (by kernel_rfl) (fun _ _ _ _ _ h => h) HC ?_
  intro hne hu
  simp only [AllCells] at hu
  simp only [pick, List.take_succ_cons, List.take_zero, List.drop_succ_cons, List.drop_zero, List.cons_append, List.nil_append]
  repeat (go_big_quiet_step (fail))
  refine wpQuiet_nil ?_
  clear hne hu
  refine anyN_oneL 2 (by kernel_rfl) ?_
  simp only [List.take_succ_cons, List.take_zero, List.drop_succ_cons, List.drop_zero]
  go_wp2_with (go_at_call 105; refine HX.out.mono ?_; rintro x w4 ⟨BX, cX, rfl, hgX, hlX, hbX, hb4⟩)
  have HC4 := AllCells.below HC hb4
  have T4 := Lib.hid (T3.out.next hb4)
  have GX := Lib.hid (show w.heap.size + 1 + 1 < BX by have := T3.out.c.lt; omega)
  have LX := Lib.hid hlX
  have BXB := Lib.hid hbX
  have HY := Lib.hid (spread_c m2 e2 low (by omega) (by omega) lw2 (by omega) (by omega) (by omega) w4 (HT.out.next T4.out.below))
  clear hgX hlX hbX hb4 T3 HC HX
  refine And.intro (fun _ => HC4) ?_
  refine anyN_oneL 5 (by kernel_rfl) ?_
  simp only [List.take_succ_cons, List.take_zero, List.drop_succ_cons, List.drop_zero]
  go_wp2_with (go_at_call 105; refine HY.out.mono ?_; rintro x w5 ⟨BY, cY, rfl, hgY, hlY, hbY, hb5⟩)
  have HC5 := AllCells.below HC4 hb5
  have T5 := Lib.hid (T4.out.next hb5)
  have BX5 : Hid (BytesAt w5 BX 0 (spreadF m1 e1 low)) := fun i b hib => (hb5.cell (p := ⟨BX, 0 + i, none⟩) LX.out).trans (BXB.out i b hib)
  have GY := Lib.hid (show w.heap.size + 1 + 1 < BY by have := T4.out.c.lt; omega)
  have LX5 := Lib.hid (Nat.lt_of_lt_of_le LX.out hb5.size)
  have LY := Lib.hid hlY
  have BYB := Lib.hid hbY
  clear hgY hlY hbY hb5 T4 HC4 HY BXB LX
  refine And.intro (fun _ => HC5) ?_
  refine anyN_oneL 6 (by kernel_rfl) ?_
  simp only [List.take_succ_cons, List.take_zero, List.drop_succ_cons, List.drop_zero]
  go_wp2_with fail
  refine And.intro (fun _ => HC5) ?_
  refine anyN_oneL 7 (by kernel_rfl) ?_
  simp only [List.take_succ_cons, List.take_zero, List.drop_succ_cons, List.drop_zero]
  go_wp2_with fail
  refine And.intro (fun _ => HC5) ?_
  refine ⟨by kernel_rfl, ?_⟩
  obtain ⟨xs, hxs⟩ : ∃ xs, spreadF m1 e1 low = xs := ⟨_, rfl⟩
  obtain ⟨ys, hys⟩ : ∃ ys, spreadF m2 e2 low = ys := ⟨_, rfl⟩
  rw [hxs] at BX5
  rw [hys] at BYB
  simp only [hxs, hys]
  have HXS := Lib.hid hxs
  have HYS := Lib.hid hys
  have lx : xs.length ≤ 101 := by rw [← hxs, spreadF, List.length_append, digL_len, List.length_replicate]; have := nDigits_20 (u := m1.natAbs) (by omega); omega
  have ly : ys.length ≤ 101 := by rw [← hys, spreadF, List.length_append, digL_len, List.length_replicate]; have := nDigits_20 (u := m2.natAbs) (by omega); omega
  have HXI := Lib.hid (show ∀ b ∈ xs, 0 ≤ b ∧ b ≤ 9 by rw [← hxs]; exact spreadF_in m1 e1 low)
  have HYI := Lib.hid (show ∀ b ∈ ys, 0 ≤ b ∧ b ≤ 9 by rw [← hys]; exact spreadF_in m2 e2 low)
  clear hxs hys
  obtain ⟨N, hN⟩ : ∃ N, max xs.length ys.length + 1 = N := ⟨_, rfl⟩
  have hNi : max (xs.length : Int) (ys.length : Int) + 1 = (N : Int) := by omega
  have nx : xs.length ≤ N := by omega
  have ny : ys.length ≤ N := by omega
  have nn : N ≤ 200 := by omega
  have HN := Lib.hid hN
  clear hN
  have hmk := makeI N (by omega) w5
  have hal5 := (Below.refl _ w5).alloc (Nat.le_refl _) (.cells (intsV (List.replicate N 0)).toArray 3)
  have T6 := Lib.hid (T5.out.next hal5)
  have S6 := Lib.hid (Blk.new w5 3 (intsV (List.replicate N 0)).toArray)
  have SZ := Lib.hid (show w.heap.size + 1 + 1 < w5.heap.size from T5.out.c.lt)
  have NX := Lib.hid (show BX ≠ w5.heap.size from Nat.ne_of_lt LX5.out)
  have NY := Lib.hid (show BY ≠ w5.heap.size from Nat.ne_of_lt LY.out)
  have BX6 : Hid (BytesAt (w5.alloc (.cells (intsV (List.replicate N 0)).toArray 3)) BX 0 xs) := fun i b hib => (hal5.cell (p := ⟨BX, 0 + i, none⟩) LX5.out).trans (BX5.out i b hib)
  have BY6 : Hid (BytesAt (w5.alloc (.cells (intsV (List.replicate N 0)).toArray 3)) BY 0 ys) := fun i b hib => (hal5.cell (p := ⟨BY, 0 + i, none⟩) LY.out).trans (BYB.out i b hib)
  have HG := gather_c w5.heap.size (List.replicate N 0) N BX 0 xs.length cX xs (decide (m1 < 0)) (w5.alloc (.cells (intsV (List.replicate N 0)).toArray 3)) S6.out NX.out rfl (by simpa using nx) (by simp; omega) BX6.out (fun b hb => by have := HXI.out b hb; omega) (fun x hx => by rw [(List.mem_replicate.1 hx).2]; omega)
  rw [List.length_replicate] at HG
  have HG1 := Lib.hid HG
  have LYs := Lib.hid (Nat.lt_of_lt_of_le LY.out hal5.size)
  clear HG hal5 T5 BX5 BYB LX5 LY
  have c0 := T6.out.a.cell 0
  have c1 := T6.out.a.cell 1
  have c2 := T6.out.b.cell 0
  have c3 := T6.out.b.cell 1
  simp only [List.getElem?_toArray, List.getElem?_cons_zero, List.getElem?_cons_succ] at c0 c1 c2 c3
  go_wp2_with fail
  refine HG1.out.mono ?_
  rintro x w7 ⟨rfl, hS7, hO7⟩
  have T7 := Lib.hid (T6.out.only hO7 SZ.out)
  have BY7 : Hid (BytesAt w7 BY 0 ys) := fun i b hib => (hO7.cell (p := ⟨BY, 0 + i, none⟩) LYs.out NY.out).trans (BY6.out i b hib)
  have ln1 : (gath (decide (m1 < 0)) (List.replicate N 0) (N - xs.length) xs).length = N := by rw [gath_len]; simp
  have sm1 : Small 1000000 (gath (decide (m1 < 0)) (List.replicate N 0) (N - xs.length) xs) := fun x hx => by
    have := gath_small (decide (m1 < 0)) xs (List.replicate N 0) (N - xs.length) 0 (Int.le_refl _) (fun x hx => by rw [(List.mem_replicate.1 hx).2]; omega) (fun b hb => by have := HXI.out b hb; omega) x hx
    omega
  have HG := gather_c w5.heap.size _ N BY 0 ys.length cY ys (decide (m2 < 0)) w7 hS7 NY.out rfl (by rw [ln1]; exact ny) (by rw [ln1]; omega) BY7.out (fun b hb => by have := HYI.out b hb; omega) sm1
  rw [ln1] at HG
  have HG2 := Lib.hid HG
  have LN1 := Lib.hid ln1
  have SM1 := Lib.hid (show Small 520200 (gath (decide (m1 < 0)) (List.replicate N 0) (N - xs.length) xs) from fun x hx => by
    have := gath_small (decide (m1 < 0)) xs (List.replicate N 0) (N - xs.length) 0 (Int.le_refl _) (fun x hx => by rw [(List.mem_replicate.1 hx).2]; omega) (fun b hb => by have := HXI.out b hb; omega) x hx
    omega)
  clear HG ln1 sm1 hS7 hO7 T6 c0 c1 c2 c3
  have c0 := T7.out.a.cell 0
  have c1 := T7.out.a.cell 1
  have c2 := T7.out.b.cell 0
  have c3 := T7.out.b.cell 1
  simp only [List.getElem?_toArray, List.getElem?_cons_zero, List.getElem?_cons_succ] at c0 c1 c2 c3
  go_wp2_with fail
  refine HG2.out.mono ?_
  rintro x w8 ⟨rfl, hS8, hO8⟩
  have T8 := Lib.hid (T7.out.only hO8 SZ.out)
  have HSF : Hid (sumF m1 e1 m2 e2 = gath (decide (m2 < 0)) (gath (decide (m1 < 0)) (List.replicate N 0) (N - xs.length) xs) (N - ys.length) ys) := by
    show _ = _
    unfold sumF
    rw [HLOW.out]
    dsimp only
    rw [HXS.out, HYS.out, HN.out]
  have lnS : (sumF m1 e1 m2 e2).length = N := by rw [HSF.out, gath_len]; exact LN1.out
  rw [← HSF.out] at hS8
  have smS : Small 1000000000 (sumF m1 e1 m2 e2) := fun x hx => by
    rw [HSF.out] at hx
    have := gath_small (decide (m2 < 0)) ys _ (N - ys.length) 520200 (by omega) SM1.out (fun b hb => by have := HYI.out b hb; omega) x hx
    omega
  have HAF : Hid (addF m1 e1 m2 e2 = roundF (negF (sumF m1 e1 m2 e2)) (settF (sumF m1 e1 m2 e2)) low) := by show _ = _; unfold addF; rw [HLOW.out]
  generalize sumF m1 e1 m2 e2 = S at *
  have HST := settle_c w5.heap.size S N w8 hS8 (by omega) smS
  rw [lnS] at HST
  have HS9 := Lib.hid HST
  have LNS := Lib.hid lnS
  clear HST lnS hS8 hO8 smS T7 c0 c1 c2 c3
  have c0 := T8.out.a.cell 0
  have c1 := T8.out.a.cell 1
  have c2 := T8.out.b.cell 0
  have c3 := T8.out.b.cell 1
  simp only [List.getElem?_toArray, List.getElem?_cons_zero, List.getElem?_cons_succ] at c0 c1 c2 c3
  go_wp2_with fail
  refine HS9.out.mono ?_
  rintro x w9 ⟨rfl, hb9, hB9⟩
  have T9 := Lib.hid (T8.out.next hb9)
  have Z9 := Lib.hid (show w.heap.size + 1 + 1 < w8.heap.size from T8.out.c.lt)
  have HS10 := Lib.hid (round_c (negF S) w8.heap.size 0 S.length S.length (settF S) low w9 ⟨settF_len S, Nat.le_refl _, by have := LNS.out; omega, _, hB9, fun i b hb => by rw [Nat.zero_add, List.getElem?_toArray]; exact bytesV_get hb⟩ (by have := LNS.out; omega) (settF_in S) (by omega) (by omega))
  rw [← HAF.out] at HS10
  clear hb9 hB9 T8 c0 c1 c2 c3
  go_wp2_with fail
  refine HS10.out.mono ?_
  rintro x w10 ⟨rfl, hO10⟩
  have T10 := Lib.hid (T9.out.only hO10 Z9.out)
  clear hO10 T9
  have k0 := T10.out.c.cell 0
  have k1 := T10.out.c.cell 1
  have f0 := T10.out.c.frozen 0
  have f1 := T10.out.c.frozen 1
  simp only [List.getElem?_toArray, List.getElem?_cons_zero, List.getElem?_cons_succ] at k0 k1
  cases hR : addF m1 e1 m2 e2 with
  | none =>
    have HR := Lib.hid hR
    clear hR HAF HS10
    simp only [optV]
    go_wp2_with fail
    change bodyPost _ _ _ _ _ (put2 w10 (w.heap.size + 1 + 1) (.int .i64 0) (.int .i64 0))
    have bX2 := blk_put2 T10.out.c (.int .i64 0) (.int .i64 0)
    have HO9 := Lib.hid ((T10.out.below.setCell (p := ⟨w.heap.size + 1 + 1, 0, none⟩) (by simp; omega) (.int .i64 0)).setCell (p := ⟨w.heap.size + 1 + 1, 1, none⟩) (by simp; omega) (.int .i64 0))
    change Hid (Below _ _ (put2 w10 (w.heap.size + 1 + 1) (.int .i64 0) (.int .i64 0))) at HO9
    generalize put2 w10 (w.heap.size + 1 + 1) (.int .i64 0) (.int .i64 0) = W2 at *
    have d0 := bX2.cell 0
    have d1 := bX2.cell 1
    simp only [List.getElem?_toArray, List.getElem?_cons_zero, List.getElem?_cons_succ] at d0 d1
    exact bodyPost_ret (v := .tuple #[.agg #[(.int .i64 0), (.int .i64 0)], .bool false]) (by simp [results, Tryz.f62, go_sem, d0, d1]) rfl ⟨by rw [HR.out]; rfl, HO9.out⟩
  | some p =>
    obtain ⟨p1, p2⟩ := p
    have HR := Lib.hid hR
    clear hR HAF HS10
    simp only [optV]
    go_wp2_with fail
    change bodyPost _ _ _ _ _ (put2 w10 (w.heap.size + 1 + 1) (.int .i64 p1) (.int .i64 p2))
    have bX2 := blk_put2 T10.out.c (.int .i64 p1) (.int .i64 p2)
    have HO9 := Lib.hid ((T10.out.below.setCell (p := ⟨w.heap.size + 1 + 1, 0, none⟩) (by simp; omega) (.int .i64 p1)).setCell (p := ⟨w.heap.size + 1 + 1, 1, none⟩) (by simp; omega) (.int .i64 p2))
    change Hid (Below _ _ (put2 w10 (w.heap.size + 1 + 1) (.int .i64 p1) (.int .i64 p2))) at HO9
    generalize put2 w10 (w.heap.size + 1 + 1) (.int .i64 p1) (.int .i64 p2) = W2 at *
    have d0 := bX2.cell 0
    have d1 := bX2.cell 1
    simp only [List.getElem?_toArray, List.getElem?_cons_zero, List.getElem?_cons_succ] at d0 d1
    exact bodyPost_ret (v := .tuple #[.agg #[(.int .i64 p1), (.int .i64 p2)], .bool true]) (by simp [results, Tryz.f62, go_sem, d0, d1]) rfl ⟨by rw [HR.out]; rfl, HO9.out⟩
end Go.Proofs.YtdmbppgogdkpdaaGreatDoor
