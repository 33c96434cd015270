/-
  counterpanelaw30.great: its contract. Condition: the rows can be read, their ints fit 64 bits.
-/
import Derived.Test.YtifdpcjfjoekmaaB3
import Derived.Test.YtifdpcjfjoekmaaA7
namespace Go.Proofs.Ytifdpcjfjoekmaa
open Go.RowKit

/-- Rows that can be read, whatever stands in them. -/
structure RowsW (w : World) (A : Option Addr) (rs : List RowD) : Prop where
  top : ManyR rowCell 1 w A rs
  row : ∀ r ∈ rs, ManyR Val.cs 6 w r.A r.l
  len : ∀ r ∈ rs, r.l.length = r.n ∧ r.n ≤ 9223372036854775807
  fit : ∀ r ∈ rs, ∀ v ∈ r.l, -9223372036854775808 ≤ v.mant ∧ v.mant ≤ 9223372036854775807 ∧ -9223372036854775808 ≤ v.exp ∧ v.exp ≤ 9223372036854775807
theorem RowsW.next {w w' : World} {A : Option Addr} {rs : List RowD} (h : RowsW w A rs) (hb : Below w.heap.size w w') : RowsW w' A rs := ⟨h.top.next hb, fun r hr => (h.row r hr).next hb, h.len, h.fit⟩
def GreatP (w : World) (rs : List RowD) (e : Ending) (w' : World) : Prop := ∃ b : Bool, e = .returned (.bool b) ∧ (b = false → (∀ r ∈ rs, RowOk r.l ∧ r.n ≤ 10) ∧ rs.length ≤ 60) ∧ Below w.heap.size w w'
set_option maxRecDepth 100000 in
set_option maxHeartbeats 4000000 in
theorem great_c (A : Option Addr) (n ca : Nat) (rs : List RowD) (w : World) (hA : RowsW w A rs) (hn : rs.length = n) (hm : n ≤ 9223372036854775807) :
    Calls Try.prog 8 #[.slice A n ca] w (GreatP w rs) := by
  have HA := Lib.hid hA
  have HN := Lib.hid hn
  clear hA hn
  go_enter Try.func8, Try.ntmps8
  go_wp2_with fail
  go_loopw [3] (fun i wr => ∃ j : Nat, j ≤ n ∧ i = .int .i64 j ∧ Hid (∀ r ∈ rs.take j, RowOk r.l ∧ r.n ≤ 10) ∧ Hid (Below w.heap.size w wr)) (fun i _ => n - (intOf i).toNat)
  case atStart => exact ⟨0, Nat.zero_le _, rfl, Lib.hid (fun r hr => by simp at hr), Lib.hid (Below.refl _ _)⟩
  case round =>
    obtain ⟨j, hj, rfl, hc, hb⟩ := hrel
    by_cases hlt : j < n
    · have hjl : j < rs.length := by rw [HN.out]; exact hlt
      have HRow := Lib.hid (fun (W : World) (hW : Below w.heap.size w W) => (HA.out.next hW).row _ (List.getElem_mem hjl))
      have HTop := Lib.hid (fun (W : World) (hW : Below w.heap.size w W) => (HA.out.next hW).top (fun e => by rw [e] at hjl; simp at hjl))
      obtain ⟨bA, oA, rfl, _⟩ := HTop.out w (Below.refl _ w)
      have HCell : Hid (∀ W, Below w.heap.size w W → W.cell? ⟨bA, oA + j, none⟩ = some (.slice rs[j].A rs[j].n rs[j].c)) := Lib.hid (fun W hW => by
        obtain ⟨b', o', e, _, hc'⟩ := HTop.out W hW
        cases e
        have g := hc' j hjl 0 _ rfl
        simpa only [Nat.add_zero, Nat.mul_one] using g)
      have hmem := Lib.hid (List.getElem_mem hjl)
      have htk := Lib.hid (show rs.take (j + 1) = rs.take j ++ [rs[j]] from by rw [List.take_succ_eq_append_getElem hjl])
      clear HTop
      generalize rs[j] = r at *
      have HL := Lib.hid (HA.out.len _ hmem.out)
      have HF := Lib.hid (HA.out.fit _ hmem.out)
      obtain ⟨B, q, cb, l⟩ := r
      dsimp only at HL HF HRow HCell
      have hj0 : (0 : Int) ≤ (j : Int) := by omega
      have hjn : (j : Int) < (n : Int) := by omega
      have g := HCell.out wr hb.out
      by_cases hq : q ≤ 10
      · have hqb : decide ((10 : Int) < (q : Int)) = false := decide_eq_false (by omega)
        go_wp2_with fail
        clear g
        go_loopw [4] (fun i wr => ∃ k : Nat, k ≤ q ∧ i = .int .i64 k ∧ Hid (∀ v ∈ l.take k, Okay v ∧ 0 ≤ v.kind ∧ v.kind ≤ 4) ∧ Hid (Below w.heap.size w wr)) (fun i _ => q - (intOf i).toNat)
        case atStart => exact ⟨0, Nat.zero_le _, rfl, Lib.hid (fun r hr => by simp at hr), hb⟩
        case round =>
          obtain ⟨k, hk, rfl, hd, hb2⟩ := hrel
          have g := HCell.out wr hb2.out
          by_cases hlt2 : k < q
          · have hkl : k < l.length := by rw [HL.out.1]; exact hlt2
            obtain ⟨bK, oK, rfl, lK, hcK⟩ := HRow.out wr hb2.out (fun e => by rw [e] at hkl; simp at hkl)
            have gv := hcK k hkl
            have hmk := Lib.hid (List.getElem_mem hkl)
            have htk2 := Lib.hid (show l.take (k + 1) = l.take k ++ [l[k]] from by rw [List.take_succ_eq_append_getElem hkl])
            clear hcK
            generalize l[k] = z at *
            have HZ := Lib.hid (HF.out _ hmk.out)
            have HRt := Lib.hid (fun W => refRight_c z W HZ.out.1 HZ.out.2.1 HZ.out.2.2.1 HZ.out.2.2.2)
            obtain ⟨vk, m, ex, t, b, f⟩ := z
            have c0 := gv 0 _ rfl
            have c1 := gv 1 _ rfl
            have c2 := gv 2 _ rfl
            have c3 := gv 3 _ rfl
            have c4 := gv 4 _ rfl
            have c5 := gv 5 _ rfl
            rw [Nat.add_zero] at c0
            clear gv
            have hk0 : (0 : Int) ≤ (k : Int) := by omega
            have hkn : (k : Int) < (q : Int) := by omega
            have wk : IntKind.i64.wrap ((k : Int) + 1) = (k : Int) + 1 := IntWalk.i64_in _ (by omega)
            by_cases ht : t.size ≤ 300
            · have htb : decide ((300 : Int) < (t.size : Int)) = false := decide_eq_false (by omega)
              go_wp2_with fail
              refine (HRt.out wr).mono ?_
              rintro e w1 ⟨b1, rfl, r1, B1⟩
              have HB1 := Lib.hid (hb2.out.trans (B1.mono hb2.out.size))
              have HR1 := Lib.hid r1
              clear B1 r1 g c0 c1 c2 c3 c4 c5
              cases b1
              · go_wp2_with fail
                go_ret
                exact ⟨true, rfl, (fun h => by cases h), HB1.out⟩
              · go_wp2_with fail
                go_roundw
                case rel =>
                  refine ⟨k + 1, by omega, by go_num, Lib.hid (fun v hv => ?_), HB1⟩
                  rw [htk2.out, List.mem_append] at hv
                  rcases hv with hv | hv
                  · exact hd.out v hv
                  · rw [List.mem_singleton.1 hv]
                    have := HR1.out (by first | trivial | rfl)
                    exact ⟨⟨this.1, Nat.le_trans ht (by decide)⟩, this.2⟩
                case measure => simp [intOf]; omega
            · have htb : decide ((300 : Int) < (t.size : Int)) = true := decide_eq_true (by omega)
              clear ht
              go_wp2_with fail
              go_ret
              exact ⟨true, rfl, (fun h => by cases h), hb2.out⟩
          · obtain rfl : k = q := by omega
            have hkk : decide ((k : Int) < (k : Int)) = false := decide_eq_false (by omega)
            have wj : IntKind.i64.wrap ((j : Int) + 1) = (j : Int) + 1 := IntWalk.i64_in _ (by omega)
            go_wp2_with fail
            go_roundw
            case rel =>
              refine ⟨j + 1, by omega, by go_num, Lib.hid (fun r hr => ?_), hb2⟩
              rw [htk.out, List.mem_append] at hr
              rcases hr with hr | hr
              · exact hc.out r hr
              · rw [List.mem_singleton.1 hr]
                refine ⟨fun v hv => hd.out v ?_, hq⟩
                rw [List.take_of_length_le (by rw [HL.out.1]; exact Nat.le_refl _)]
                exact hv
            case measure => simp [intOf]; omega
      · have hqb : decide ((10 : Int) < (q : Int)) = true := decide_eq_true (by omega)
        clear hq
        go_wp2_with fail
        go_ret
        exact ⟨true, rfl, (fun h => by cases h), hb.out⟩
    · obtain rfl : j = n := by omega
      have hjj : decide ((j : Int) < (j : Int)) = false := decide_eq_false (by omega)
      go_wp2_with fail
      go_ret
      refine ⟨_, rfl, fun h => ?_, hb.out⟩
      refine ⟨fun r hr => hc.out r (by rw [List.take_of_length_le (by rw [HN.out]; exact Nat.le_refl _)]; exact hr), ?_⟩
      have := of_decide_eq_false h
      rw [HN.out]; omega
end Go.Proofs.Ytifdpcjfjoekmaa
