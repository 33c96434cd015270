/-
  counterpaneref09.Same: its contract. Condition: both arrays can be read; at most 4096 values.
-/
import Derived.Test.YtccnkkffeokgcaaGreatDoorQ17
namespace Go.Proofs.YtccnkkffeokgcaaGreatDoor
open Go.RowKit
def SameP (w : World) (r c r' c' : Int) (l l' : List Val) (e : Ending) (w' : World) : Prop := ∃ b : Bool, e = .returned (.bool b) ∧ (b = true ↔ r = r' ∧ c = c' ∧ l = l') ∧ Below w.heap.size w w'
set_option maxRecDepth 100000 in
set_option maxHeartbeats 4000000 in
theorem same_c (r c r' c' : Int) (A A' : Option Addr) (n ca n' ca' : Nat) (l l' : List Val) (w : World) (hA : ManyR Val.cs 6 w A l) (hA' : ManyR Val.cs 6 w A' l') (hn : l.length = n) (hn' : l'.length = n') (hm : n ≤ 4096) :
    Calls Tryz.prog 6 #[.agg #[.int .i64 r, .int .i64 c, .slice A n ca], .agg #[.int .i64 r', .int .i64 c', .slice A' n' ca']] w (SameP w r c r' c' l l') := by
  have HA := Lib.hid hA
  have HA' := Lib.hid hA'
  have HN := Lib.hid hn
  have HN' := Lib.hid hn'
  clear hA hA' hn hn'
  have BX := Lib.hid ((Blk.new w 24 #[.int .i64 r, .int .i64 c, .slice A n ca]).alloc (.cells #[.int .i64 r', .int .i64 c', .slice A' n' ca'] 24))
  have HB := Lib.hid (((Below.refl _ w).alloc (Nat.le_refl _) (.cells #[.int .i64 r, .int .i64 c, .slice A n ca] 24)).alloc (by simp) (.cells #[.int .i64 r', .int .i64 c', .slice A' n' ca'] 24))
  have BY := Lib.hid (show Blk ((w.alloc (.cells #[.int .i64 r, .int .i64 c, .slice A n ca] 24)).alloc (.cells #[.int .i64 r', .int .i64 c', .slice A' n' ca'] 24)) (w.heap.size + 1) 24 #[.int .i64 r', .int .i64 c', .slice A' n' ca'] by
    have := Blk.new (w.alloc (.cells #[.int .i64 r, .int .i64 c, .slice A n ca] 24)) 24 #[.int .i64 r', .int .i64 c', .slice A' n' ca']
    rwa [show (w.alloc (.cells #[.int .i64 r, .int .i64 c, .slice A n ca] 24)).heap.size = w.heap.size + 1 by simp] at this)
  by_cases h1 : r = r'
  case neg =>
    have hb : (r != r') = true := by simp [h1]
    have H := Lib.hid h1
    clear h1
    go_enter Tryz.func6, Tryz.ntmps6
    go_wp2_with fail
    go_ret
    exact ⟨false, rfl, ⟨(fun h => by cases h), fun h => absurd h.1 H.out⟩, HB.out⟩
  by_cases h2 : c = c'
  case neg =>
    have hb : (r != r') = false := by simp [h1]
    have hb2 : (c != c') = true := by simp [h2]
    have H := Lib.hid h2
    clear h1 h2
    go_enter Tryz.func6, Tryz.ntmps6
    go_wp2_with fail
    go_ret
    exact ⟨false, rfl, ⟨(fun h => by cases h), fun h => absurd h.2.1 H.out⟩, HB.out⟩
  by_cases h3 : n = n'
  case neg =>
    have hb : (r != r') = false := by simp [h1]
    have hb2 : (c != c') = false := by simp [h2]
    have hb3 : ((n : Int) != (n' : Int)) = true := by simp; omega
    have H := Lib.hid h3
    clear h1 h2 h3
    go_enter Tryz.func6, Tryz.ntmps6
    go_wp2_with fail
    go_ret
    exact ⟨false, rfl, ⟨(fun h => by cases h), fun h => absurd (by rw [← HN.out, ← HN'.out, h.2.2]) H.out⟩, HB.out⟩
  have hb : (r != r') = false := by simp [h1]
  have hb2 : (c != c') = false := by simp [h2]
  have hb3 : ((n : Int) != (n' : Int)) = false := by simp; omega
  have H1 := Lib.hid h1
  have H2 := Lib.hid h2
  have H3 := Lib.hid h3
  clear h1 h2 h3
  go_enter Tryz.func6, Tryz.ntmps6
  go_wp2_with fail
  generalize ((w.alloc (.cells #[.int .i64 r, .int .i64 c, .slice A n ca] 24)).alloc (.cells #[.int .i64 r', .int .i64 c', .slice A' n' ca'] 24)) = V at *
  clear hb hb2 hb3
  go_loopw [5] (fun i wr => ∃ j : Nat, j ≤ n ∧ i = .int .i64 j ∧ Hid (l.take j = l'.take j) ∧ Hid (Below w.heap.size w wr) ∧ Hid (Blk wr w.heap.size 24 #[.int .i64 r, .int .i64 c, .slice A n ca]) ∧ Hid (Blk wr (w.heap.size + 1) 24 #[.int .i64 r', .int .i64 c', .slice A' n' ca'])) (fun i _ => n - (intOf i).toNat)
  case atStart => exact ⟨0, Nat.zero_le _, rfl, Lib.hid (by simp), HB, BX, BY⟩
  case round =>
    obtain ⟨j, hj, rfl, hE, hb, hx, hy⟩ := hrel
    have x2 := hx.out.cell 2
    simp only [List.getElem?_toArray, List.getElem?_cons_zero, List.getElem?_cons_succ] at x2
    by_cases hlt : j < n
    · have hjl : j < l.length := by rw [HN.out]; exact hlt
      have hjl' : j < l'.length := by rw [HN'.out, ← H3.out]; exact hlt
      obtain ⟨bA, oA, rfl, lA, hcA⟩ := (HA.out.next hb.out) (fun e => by rw [e] at hjl; simp at hjl)
      obtain ⟨bB, oB, rfl, lB, hcB⟩ := (HA'.out.next hb.out) (fun e => by rw [e] at hjl'; simp at hjl')
      have gv := hcA j hjl
      have gu := hcB j hjl'
      have HT := Lib.hid (show l.take (j + 1) = l.take j ++ [l[j]] from by rw [List.take_succ_eq_append_getElem hjl])
      have HT' := Lib.hid (show l'.take (j + 1) = l'.take j ++ [l'[j]] from by rw [List.take_succ_eq_append_getElem hjl'])
      have HG := Lib.hid (show l = l' → l[j] = l'[j] from fun h => by subst h; rfl)
      clear hcA hcB
      generalize l[j] = z at *
      generalize l'[j] = u at *
      clear hjl hjl'
      have hzc : z.cs = [.int .i64 z.kind, .int .i64 z.mant, .int .i64 z.exp, .string z.text, .bool z.truth, .int .i64 z.fault] := rfl
      have huc : u.cs = [.int .i64 u.kind, .int .i64 u.mant, .int .i64 u.exp, .string u.text, .bool u.truth, .int .i64 u.fault] := rfl
      obtain ⟨k, m, e, t, b, f⟩ := z
      obtain ⟨k', m', e', t', b', f'⟩ := u
      have c0 := gv 0 _ rfl
      have c1 := gv 1 _ rfl
      have c2 := gv 2 _ rfl
      have c3 := gv 3 _ rfl
      have c4 := gv 4 _ rfl
      have c5 := gv 5 _ rfl
      rw [Nat.add_zero] at c0
      have d0 := gu 0 _ rfl
      have d1 := gu 1 _ rfl
      have d2 := gu 2 _ rfl
      have d3 := gu 3 _ rfl
      have d4 := gu 4 _ rfl
      have d5 := gu 5 _ rfl
      rw [Nat.add_zero] at d0
      have y2 := hy.out.cell 2
      simp only [List.getElem?_toArray, List.getElem?_cons_zero, List.getElem?_cons_succ] at y2
      have HC : AllCells wr.drew [(⟨w.heap.size, 2, none⟩, .slice (some ⟨bA, oA, none⟩) n ca), (⟨w.heap.size + 1, 2, none⟩, .slice (some ⟨bB, oB, none⟩) n' ca'), (⟨bA, oA + j * 6, none⟩, .int .i64 k), (⟨bA, oA + j * 6 + 1, none⟩, .int .i64 m), (⟨bA, oA + j * 6 + 2, none⟩, .int .i64 e), (⟨bA, oA + j * 6 + 3, none⟩, .string t), (⟨bA, oA + j * 6 + 4, none⟩, .bool b), (⟨bA, oA + j * 6 + 5, none⟩, .int .i64 f),
        (⟨bB, oB + j * 6, none⟩, .int .i64 k'), (⟨bB, oB + j * 6 + 1, none⟩, .int .i64 m'), (⟨bB, oB + j * 6 + 2, none⟩, .int .i64 e'), (⟨bB, oB + j * 6 + 3, none⟩, .string t'), (⟨bB, oB + j * 6 + 4, none⟩, .bool b'), (⟨bB, oB + j * 6 + 5, none⟩, .int .i64 f')] := ⟨x2, y2, c0, c1, c2, c3, c4, c5, d0, d1, d2, d3, d4, d5, trivial⟩
      have hb4 := Lib.hid hb.out.drew
      have hx4 := Lib.hid (hx.out.kept (w' := wr.drew) rfl)
      have hy4 := Lib.hid (hy.out.kept (w' := wr.drew) rfl)
      clear gv gu hzc huc c0 c1 c2 c3 c4 c5 d0 d1 d2 d3 d4 d5 y2
      have hj0 : (0 : Int) ≤ (j : Int) := by omega
      have hjn : (j : Int) < (n : Int) := by omega
      have hjn' : (j : Int) < (n' : Int) := by have := H3.out; omega
      have wj : IntKind.i64.wrap ((j : Int) + 1) = (j : Int) + 1 := IntWalk.i64_in _ (by omega)
      go_wp2_with fail
      clear x2 hb hx hy
      refine region_free _ [0, 1, 2, 3, 4, 5, 6, 7, 8, 9, 10] 0 (by kernel_rfl) (by kernel_rfl) (by kernel_rfl) (by kernel_rfl) (by kernel_rfl) (fun _ _ _ _ _ h => h) HC ?_
      intro hne hu
      simp only [AllCells] at hu
      simp only [pick, List.take_succ_cons, List.take_zero, List.drop_succ_cons, List.drop_zero, List.cons_append, List.nil_append]
      repeat (go_big_quiet_step (fail))
      refine wpQuiet_nil ?_
      clear hne hu
      refine ⟨by kernel_rfl, ?_⟩
      clear HC
      cases hv : veq ⟨k, m, e, t, b, f⟩ ⟨k', m', e', t', b', f'⟩
      · have HV := Lib.hid (show ¬ (⟨k, m, e, t, b, f⟩ : Val) = ⟨k', m', e', t', b', f'⟩ from fun h => by rw [veq_true.2 h] at hv; cases hv)
        go_wp2_with fail
        go_ret
        exact ⟨false, rfl, ⟨(fun h => by cases h), fun h => absurd (HG.out h.2.2) HV.out⟩, hb4.out⟩
      · have HV := Lib.hid (veq_true.1 hv)
        go_wp2_with fail
        go_roundw
        case rel => exact ⟨j + 1, hlt, by go_num, Lib.hid (by rw [HT.out, HT'.out, hE.out, HV.out]), hb4, hx4, hy4⟩
        case measure => simp [intOf]; omega
    · obtain rfl : j = n := by omega
      have hjj : decide ((j : Int) < (j : Int)) = false := decide_eq_false (by omega)
      go_wp2_with fail
      go_ret
      refine ⟨true, rfl, ⟨fun _ => ⟨H1.out, H2.out, ?_⟩, fun _ => rfl⟩, hb.out⟩
      have := hE.out
      rwa [List.take_of_length_le (by rw [HN.out]; exact Nat.le_refl _), List.take_of_length_le (by rw [HN'.out, ← H3.out]; exact Nat.le_refl _)] at this
end Go.Proofs.YtccnkkffeokgcaaGreatDoor
