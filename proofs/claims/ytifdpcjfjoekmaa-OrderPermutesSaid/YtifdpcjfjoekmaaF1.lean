/-
  counterpanelaw30.keys: its contract. Condition: the keys can be read; at most 20.
-/
import Derived.Test.YtifdpcjfjoekmaaC10
namespace Go.Proofs.Ytifdpcjfjoekmaa
open Go.RowKit

theorem flat_get {α : Type} {f : α → List Value} {k : Nat} (hf : ∀ z, (f z).length = k) : ∀ (l : List α) (i : Nat) (h : i < l.length) (j : Nat) (v : Value), (f l[i])[j]? = some v → (l.flatMap f)[i * k + j]? = some v
  | [], i, h, _, _, _ => by simp at h
  | z :: l, 0, _, j, v, hv => by
    have hj : j < (f z).length := (List.getElem?_eq_some_iff.1 hv).1
    rw [List.flatMap_cons, Nat.zero_mul, Nat.zero_add, List.getElem?_append_left hj]
    exact hv
  | z :: l, i + 1, h, j, v, hv => by
    have ih := flat_get hf l i (by simpa using h) j v hv
    rw [List.flatMap_cons, List.getElem?_append_right (by rw [hf, Nat.succ_mul]; omega), hf, show (i + 1) * k + j - k = i * k + j by rw [Nat.succ_mul]; omega]
    exact ih
theorem flat_len {α : Type} {f : α → List Value} {k : Nat} (hf : ∀ z, (f z).length = k) : ∀ (l : List α), (l.flatMap f).length = l.length * k
  | [] => by simp
  | z :: l => by rw [List.flatMap_cons, List.length_append, hf, flat_len hf l, List.length_cons, Nat.succ_mul]; omega
theorem manyR_of_row {α : Type} {f : α → List Value} {k : Nat} (hf : ∀ z, (f z).length = k) (hk : 0 < k) {w : World} {base : Nat} {e : TypeId} {A : Option Addr} {n c : Nat} {l : List α} (h : w.ownsRow base e k (.slice A n c) n (l.flatMap f)) :
    l.length = n ∧ ManyR f k w A l := by
  have hn : l.length = n := by
    have := h.1
    rw [flat_len hf] at this
    exact Nat.eq_of_mul_eq_mul_right hk this
  refine ⟨hn, fun hl => ?_⟩
  rcases h.2 with ⟨hv, h0⟩ | ⟨g, cap, cur, hv, _, hg, _⟩
  · exact absurd (List.length_eq_zero_iff.1 (hn.trans h0)) hl
  · cases hv
    refine ⟨g, 0, rfl, (Array.getElem?_eq_some_iff.1 hg).1, fun i hi j v hv => ?_⟩
    have c1 := h.cells (g := g) rfl _ _ (flat_get hf l i hi j v hv)
    rw [add_at] at c1
    rw [Nat.add_assoc]
    exact c1
def KeysP (w : World) (ks : List KeyD) (e : Ending) (w' : World) : Prop := ∃ A c, e = .returned (.slice A ks.length c) ∧ Below w.heap.size w w' ∧ ManyR keyCells 2 w' A ks
theorem Try.info37 : (Try.prog.info? 37).map (fun i => (i.zero, i.size, i.bytes)) = some (some (.agg #[.int .i64 0, .bool false]), 2, 16) := by kernel_rfl
theorem keyCells_one (l : List KeyD) : ∀ u ∈ l.flatMap keyCells, u.oneCell' = true := by
  intro u hu
  obtain ⟨z, _, hz⟩ := List.mem_flatMap.1 hu
  simp only [keyCells, List.mem_cons, List.not_mem_nil, or_false] at hz
  rcases hz with rfl | rfl <;> rfl
set_option maxRecDepth 100000 in
set_option maxHeartbeats 1000000 in
theorem keys_c (K : Option Addr) (q ck : Nat) (ks : List KeyD) (w : World) (hK : ManyR keyCells 2 w K ks) (hq : ks.length = q) (hm : q ≤ 20) :
    Calls Try.prog 10 #[.slice K q ck] w (KeysP w ks) := by
  obtain ⟨i0, hi, hz0, hz1, hz2⟩ := info_parts Try.info37
  have HK := Lib.hid hK
  have HQ := Lib.hid hq
  clear hK hq
  go_enter Try.func10, Try.ntmps10
  go_wp2_with fail
  go_loopw [3, 4] (fun v i wr => ∃ j : Nat, j ≤ q ∧ i = .int .i64 j ∧ Hid (Below w.heap.size w wr) ∧ Hid (wr.ownsRow w.heap.size 37 2 v j ((ks.take j).flatMap keyCells))) (fun _ i _ => q - (intOf i).toNat)
  case atStart => exact ⟨0, Nat.zero_le _, rfl, Below.refl _ _, Lib.hid (World.ownsRow_nil _ _ _ _)⟩
  case round =>
    obtain ⟨j, hj, rfl, hb, hr⟩ := hrel
    obtain ⟨A5, c5, rfl, hs5⟩ := ownsRow_shape hr.out
    by_cases hlt : j < q
    · have hjl : j < ks.length := by rw [HQ.out]; exact hlt
      obtain ⟨bK, oK, rfl, lK, cK⟩ := HK.out (fun e => by rw [e] at hjl; simp at hjl)
      have g := cK j hjl
      have HT := Lib.hid (show ks.take (j + 1) = ks.take j ++ [ks[j]] from by rw [List.take_succ_eq_append_getElem hjl])
      clear cK
      generalize ks[j] = z at *
      obtain ⟨kc, kd⟩ := z
      have g0 := g 0 _ rfl
      have g1 := g 1 _ rfl
      rw [Nat.add_zero] at g0
      have hj0 : (0 : Int) ≤ (j : Int) := by omega
      have hjq : (j : Int) < (q : Int) := by omega
      have wj : IntKind.i64.wrap ((j : Int) + 1) = (j : Int) + 1 := IntWalk.i64_in _ (by omega)
      have HCC : Hid (∀ W, Below w.heap.size w W → AllCells W [(⟨bK, oK + j * 2, none⟩, .int .i64 kc), (⟨bK, oK + j * 2 + 1, none⟩, .bool kd)]) := Lib.hid (fun W hW => ⟨(hW.cell (p := ⟨bK, oK + j * 2, none⟩) lK).trans g0, (hW.cell (p := ⟨bK, oK + j * 2 + 1, none⟩) lK).trans g1, trivial⟩)
      have HC : AllCells wr.drew [(⟨bK, oK + j * 2, none⟩, .int .i64 kc), (⟨bK, oK + j * 2 + 1, none⟩, .bool kd)] := HCC.out _ hb.out.drew
      clear g g0 g1 hs5 lK
      go_wp2_with fail
      refine region_free _ [0, 1, 2, 3, 4, 5, 6, 7, 8, 9, 10, 11] 3 (by kernel_rfl) (by kernel_rfl) (by kernel_rfl) (by kernel_rfl) (by kernel_rfl) (fun _ _ _ _ _ h => h) HC ?_
      intro hne hu
      simp only [AllCells] at hu
      simp only [pick, List.take_succ_cons, List.take_zero, List.drop_succ_cons, List.drop_zero, List.cons_append, List.nil_append]
      repeat (go_big_quiet_step (fail))
      refine wpQuiet_nil ?_
      clear hne hu
      refine anyN_oneL 12 (by kernel_rfl) ?_
      simp only [List.take_succ_cons, List.take_zero, List.drop_succ_cons, List.drop_zero]
      have HSz := Lib.hid hb.out.size
      go_wp2_with fail
      have bl : Below wr.heap.size wr (wr.drew.alloc (.cells #[.int .i64 kc, .bool kd] 37)) := ((Below.refl _ wr).drew).alloc (Nat.le_refl _) _
      have HC5 := AllCells.below HC (show Below wr.drew.heap.size wr.drew (wr.drew.alloc (.cells #[.int .i64 kc, .bool kd] 37)) from (Below.refl _ _).alloc (Nat.le_refl _) _)
      have HB5 := Lib.hid (hb.out.trans (bl.mono hb.out.size))
      have HR5 := Lib.hid (ownsRow_kept hr.out (w' := wr.drew.alloc (.cells #[.int .i64 kc, .bool kd] 37)) (fun g _ hg => bl.block g hg))
      have HS5 := Lib.hid (show w.heap.size ≤ (wr.drew.alloc (.cells #[.int .i64 kc, .bool kd] 37)).heap.size from HB5.out.size)
      have HBase := Lib.hid (ownsRow_base hr.out)
      have HSrc : Hid (∀ ad, some (⟨wr.heap.size, 0, none⟩ : Addr) = some ad → ∀ j u, [Value.int .i64 kc, .bool kd][j]? = some u → (wr.drew.alloc (.cells #[.int .i64 kc, .bool kd] 37)).cell? (ad.add j) = some u) := fun ad hE j u hj => by
        cases hE
        have := (Blk.new wr.drew 37 #[.int .i64 kc, .bool kd]).cell j
        rw [add_at, Nat.zero_add]
        refine this.trans ?_
        simpa using hj
      clear bl HC
      refine And.intro (fun _ => HC5) ?_
      refine anyN_oneL 13 (by kernel_rfl) ?_
      simp only [List.take_succ_cons, List.take_zero, List.drop_succ_cons, List.drop_zero]
      go_wp2_with (at_builtin; refine wpList_append_src _ rfl _ _ _ rfl w.heap.size 37 i0 _ 2 16 Try.underlying28 hi hz0 hz1 hz2 rfl (by omega) _ j ((ks.take j).flatMap keyCells) rfl HR5.out (some ⟨wr.heap.size, 0, none⟩) 1 1 [.int .i64 kc, .bool kd] rfl (fun e => by cases e) rfl HSrc.out (by simp [Value.oneCell']) (by simp only [maxLen]; omega) (by omega) HS5.out ?_; intro v2 w2 hr2 hg2 hat2)
      have HR6 := Lib.hid (show w2.ownsRow w.heap.size 37 2 v2 (j + 1) ((ks.take (j + 1)).flatMap keyCells) by rw [HT.out, List.flatMap_append]; exact hr2)
      have HB6 := Lib.hid (below_grew HB5.out hg2 (fun g hg => HBase.out g hg))
      clear hr2 hg2 hat2
      have HC6 := HCC.out _ HB6.out
      refine And.intro (fun _ => HC6) ?_
      refine anyN_oneL 14 (by kernel_rfl) ?_
      simp only [List.take_succ_cons, List.take_zero, List.drop_succ_cons, List.drop_zero]
      go_wp2_with fail
      refine And.intro (fun _ => HC6) ?_
      refine ⟨by kernel_rfl, ?_⟩
      clear HC6 HC5
      go_wp2_with fail
      exact ⟨⟨j + 1, by omega, by go_num, HB6, HR6⟩, by simp [intOf] <;> omega⟩
    · obtain rfl : j = q := by omega
      have hjj : decide ((j : Int) < (j : Int)) = false := decide_eq_false (by omega)
      have HF := Lib.hid (manyR_of_row (f := keyCells) (k := 2) (fun _ => rfl) (by omega) hr.out)
      have HE := Lib.hid (show ks.take j = ks from List.take_of_length_le (by rw [HQ.out]; exact Nat.le_refl _))
      go_wp2_with fail
      go_ret
      exact ⟨A5, c5, by rw [HQ.out]; rfl, hb.out, by have := HF.out.2; rw [HE.out] at this; exact this⟩
end Go.Proofs.Ytifdpcjfjoekmaa
