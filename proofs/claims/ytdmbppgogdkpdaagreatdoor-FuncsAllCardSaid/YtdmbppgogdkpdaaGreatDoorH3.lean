/-
  FuncsAll: the law tells true, whatever 'many' is. No condition.
-/
import Derived.Test.YtdmbppgogdkpdaaGreatDoorD12
import Derived.Test.YtdmbppgogdkpdaaGreatDoorH1
import Derived.Test.YtdmbppgogdkpdaaGreatDoorH2
namespace Go.Proofs.YtdmbppgogdkpdaaGreatDoor
open Go.RowKit Go.Maps Go.Sort Go.Shelf
attribute [local go_sem] Oper.semAt_some
/-- The list so far, in a box. -/
structure AI (w : World) (B : Nat) (l : List (List UInt8)) (v : Value) (W : World) : Prop where
  below : Below w.heap.size w W
  box : Blk W B 46 #[v]
  row : W.ownsRow w.heap.size 9 1 v l.length (l.map encStr)
def FoB (B : Nat) (W : World) (k : Nat) : Prop := k ≠ B ∧ ∃ v, Blk W B 46 #[v] ∧ v.ownBlock ≠ some k
theorem foB_ok (B : Nat) : FoOK (FoB B) := fun _ _ _ _ ⟨h1, v, h2, h3⟩ hg hr => ⟨h1, v, h2.own hg hr, h3⟩
theorem below_row {S : Nat} {w W W' : World} {row : Option Nat} {B : Nat} (h : Below S w W) (hw : S ≤ w.heap.size) (hB : w.heap.size ≤ B) (hg : W.grownBy W' row) (hr : ∀ r, row = some r → B ≤ r) : Below S w W' := below_own h hw hB hg hr
section
variable {w W W1 : World} {B : Nat} {l : List (List UInt8)} {v : Value}
theorem AI.next (h : AI w B l v W) (k : Below W.heap.size W W1) : AI w B l v W1 :=
  ⟨h.below.trans (k.mono h.below.size), h.box.kept (k.block B h.box.lt), row_below h.row k⟩
theorem AI.grow (h : AI w B l v W) {row : Option Nat} {S : Nat} (hS : w.heap.size ≤ S) (hg : W.grownBy W1 row) (hr : ∀ r, row = some r → S ≤ r ∧ ∃ o : Obj, W.heap[r]? = some o ∧ o.isCells = false) : AI w B l v W1 := by
  refine ⟨below_own h.below (Nat.le_refl _) hS hg (fun r e => (hr r e).1), h.box.own hg (fun r e => (hr r e).2), ownsRow_kept h.row (fun g hv hgl => ?_)⟩
  refine hg.block g hgl (fun e => ?_)
  obtain ⟨_, o, ho, hc⟩ := hr g e.symm
  rcases h.row.2 with ⟨hn, _⟩ | ⟨g', cap, cur, hv', _, hb, _⟩
  · rw [hn] at hv; cases hv
  · rw [hv'] at hv
    simp [Value.ownBlock] at hv
    subst hv
    rw [hb] at ho
    cases ho
    cases hc
theorem box_ne_row {S : Nat} {n : Nat} {u v : Value} {xs : List Value} (hb : Blk W B 46 #[u]) (hr : W.ownsRow S 9 1 v n xs) : v.ownBlock ≠ some B := by
  intro e
  rcases hr.2 with ⟨hn, _⟩ | ⟨g', cap, cur, hv', _, hg, _⟩
  · rw [hn] at e; cases e
  · rw [hv'] at e
    simp [Value.ownBlock] at e
    subst e
    unfold Blk at hb
    rw [hb] at hg
    simp at hg
theorem AI.put {x : List UInt8} {v' : Value} (h : AI w B l v W) (hB : w.heap.size ≤ B) (hg : W.grownBy W1 v.ownBlock) (hr : W1.ownsRow w.heap.size 9 1 v' (l.length + 1) (l.map encStr ++ [.string ⟨x.toArray⟩])) (hat : v'.ownBlock = v.ownBlock ∨ v'.ownBlock = some W.heap.size) :
    Blk W1 B 46 #[v] ∧ KF (FoB B) W (W1.setCell ⟨B, 0, none⟩ v') ∧ AI w B (l ++ [x]) v' (W1.setCell ⟨B, 0, none⟩ v') := by
  have b1 : Blk W1 B 46 #[v] := h.box.kept (hg.block B h.box.lt (fun e => box_ne_row h.box h.row e.symm))
  have b2 : Blk (W1.setCell ⟨B, 0, none⟩ v') B 46 #[v'] := by
    have := b1.store 0 v'
    simpa using this
  have hr' : W1.ownsRow w.heap.size 9 1 v' (l ++ [x]).length ((l ++ [x]).map encStr) := by
    rw [List.length_append, List.length_singleton, List.map_append]
    exact hr
  refine ⟨b1, fun k cs e m hk hf => ?_, (h.below.grown hg h.below.size (fun j hj => (h.row.lt j hj).1)).setCell (p := ⟨B, 0, none⟩) hB _, b2, ownsRow_kept hr' (fun g hv hgl => ?_)⟩
  · obtain ⟨f1, uI, f3, f4⟩ := hf
    have he : uI = v := by
      have := f3.symm.trans h.box
      simpa using this
    subst he
    have hlt : k < W.heap.size := (Array.getElem?_eq_some_iff.1 hk).1
    refine ⟨(Below.heap_setCell W1 _ _ k f1).trans (hg.block k hlt (fun e => f4 e.symm)), f1, _, b2, ?_⟩
    rcases hat with hat | hat
    · rw [hat]; exact f4
    · rw [hat]
      intro e
      simp at e
      omega
  · have hne : g ≠ B := fun e => box_ne_row b1 hr' (by rw [← e]; exact hv)
    exact Below.heap_setCell W1 _ _ g hne
theorem keeps_row {S n : Nat} {v : Value} {xs : List Value} (h : W.ownsRow S 9 1 v n xs) (hg : W.grownBy W1 v.ownBlock) : KeepsOthers W W1 :=
  KeepsOthers.of_grownBy hg (fun j o e ho => by
    rcases h.2 with ⟨hn, _⟩ | ⟨g', cap, cur, hv', _, hb, _⟩
    · rw [hn] at e; cases e
    · rw [hv'] at e
      simp [Value.ownBlock] at e
      subst e
      rw [hb] at ho
      cases ho
      rfl)
theorem AI.foreign (h : AI w B l v W) {k : Nat} (hk : W.heap.size ≤ k) (W1 : World) (hb : Below W.heap.size W W1) : FoB B W1 k := by
  have hB := h.box.lt
  refine ⟨by omega, v, h.box.kept (hb.block B hB), fun e => ?_⟩
  have := (h.row.lt k e).2
  omega
end
theorem row_caps {w : World} {base n c : Nat} {A : Option Addr} {xs : List Value} (h : w.ownsRow base 9 1 (.slice A n c) n xs) (hn : 0 < n) : n ≤ c ∧ c ≤ 9223372036854775807 := by
  rcases h.2 with ⟨_, h0⟩ | ⟨g', cap, cur, hv, _, _, h1, h2, _⟩
  · omega
  · cases hv
    exact ⟨h1, h2⟩
theorem StrS.part {w : World} {A : Option Addr} {n c : Nat} {L : List (List UInt8)} (h : StrS w (.slice A n c) L) (k c' : Nat) (hk : k ≤ n) : StrS w (.slice A k c') (L.take k) := by
  obtain ⟨A', c1, e, hm, hr⟩ := h
  cases e
  refine ⟨A, c', by rw [List.length_take, Nat.min_eq_left hk], Nat.le_trans (by rw [List.length_take]; omega) hm, fun hl => ?_⟩
  obtain ⟨b, off, hA, ho, hb, hc⟩ := hr (fun e => hl (by rw [List.map_take, e, List.take_nil]))
  refine ⟨b, off, hA, ho, hb, fun i hi => ?_⟩
  have hi' : i < (L.map encStr).length := by simp at hi ⊢; omega
  rw [hc i hi']
  simp
set_option maxRecDepth 100000 in
set_option maxHeartbeats 8000000 in
theorem law6 (z : Int) (h0 : 0 ≤ z) (h255 : z ≤ 255) (w : World) : Calls Tryz.prog 6 #[.int .u8 z] w fun e w' => e = .returned (.bool true) ∧ Below w.heap.size w w' := by
  have HA := Lib.hid awake7
  refine (callsIn_wide (n := 3)).1 (callsIn_of_wp_marks Tryz.func6 rfl trivial ?_ rfl)
  simp only [Tryz.ntmps6, List.size_toArray, List.length_cons, List.length_nil, Nat.reduceAdd, Nat.reduceSub, Array.replicate_succ, Array.replicate_zero, List.push_toArray, List.append_toArray, List.nil_append, List.cons_append]
  refine wpIn_wide.2 ?_
  go_wp2_with fail
  refine Calls.mono (HA.out _) ?_
  rintro _ w1 ⟨rfl, q1⟩
  have HB1 := Lib.hid (((Below.refl _ w).alloc (Nat.le_refl _) (.cells #[.bool false] 4)).trans (q1.mono (by simp)))
  have HR1 : Hid (Blk w1 w.heap.size 4 #[.bool false]) := Lib.hid (hbk (new_lies w (.cells #[.bool false] 4)) q1)
  clear q1
  go_wp2_with fail
  refine Calls.mono (refAll22 _) ?_
  rintro _ w2 ⟨v, rfl, hS, q2⟩
  obtain ⟨vA, vc, rfl, _⟩ := ownsRow_shape hS
  have HCap := Lib.hid (row_caps hS (by decide))
  have HS2 := Lib.hid (StrS.of_row hS)
  have HB2 := Lib.hid (HB1.out.trans (q2.mono HB1.out.size))
  have HR2 : Hid (Blk w2 w.heap.size 4 #[.bool false]) := Lib.hid (hbk HR1.out q2)
  clear hS q2 HB1 HR1
  go_wp2_with fail
  refine Calls.mono (all23 _) ?_
  rintro _ w3 ⟨rfl, rfl⟩
  go_wp2_with fail
  have a0 : Hid (AI w2 w2.heap.size [] (.slice none 0 0) (w2.alloc (.cells #[.slice none 0 0] 46))) := Lib.hid ⟨(Below.refl _ _).alloc (Nat.le_refl _) _, Blk.new w2 46 _, World.ownsRow_nil _ _ _ _⟩
  have hsz : w2.heap.size ≤ (w2.alloc (.cells #[.slice none 0 0] 46)).heap.size := by simp
  generalize w2.alloc (.cells #[.slice none 0 0] 46) = W0 at *
  refine (wpIn_wide (n := 3)).1 ?_
  refine wpIn_rangeFunc_ownH rfl (by omega) (gf := 40) (lb := #[]) rfl trivial (enters_of Tryz.func40 (by kernel_rfl) rfl)
    (all40_stops 2 (by omega) (FoB w2.heap.size) (foB_ok _) W0 (fun W' hW k hk => a0.out.foreign hk W' hW)) KF.trans (fun W l o o' _ h1 h2 _ => KF.put (foB_ok _) W l o o' h1 h2) (Below.refl _ _) (fun _ => rfl)
    (fun pre W => ∃ v, AI w2 w2.heap.size pre v W) (fun _ _ _ => False)
    (fun pre W W' row hs hg hr => by
      obtain ⟨v, ci⟩ := hs
      exact ⟨v, ci.grow hsz hg hr⟩) (fun _ _ _ _ _ hs _ _ => hs) ⟨_, a0.out⟩
    (fun x a' W => a' = { tmps := #[.int .u8 z, undef, .pointer (some ⟨w.heap.size, 0, none⟩), .slice vA 69 vc, .pointer (some ⟨w2.heap.size, 0, none⟩), .string ⟨x.toArray⟩, undef, undef, undef, .bool true, .bool false, .slice vA 69 vc, .func (.func 40) #[] #[], .string ⟨x.toArray⟩, undef, undef, undef, undef, undef, undef, undef, undef, undef, undef, undef, undef, undef, undef, undef, undef, undef, undef, undef, undef, undef, undef, undef, undef, undef, undef, undef, undef, undef, undef, undef, undef], defers := [] })
    (fun x a' _ W W' row hs hg hr => hs) ?assign ?body ?done ?stop
  case assign =>
    rintro l pre x W K ⟨v, ci⟩ hK
    unfold sv
    gi_wp2
    exact hK _ _ (KeepsFrom.refl _ _) (fun k cs e m h hf => ⟨rfl, hf⟩) ⟨v, ci⟩ rfl
  case body =>
    rintro l pre x a' W hl ⟨r, hr⟩ ⟨v, ci⟩ rfl hlt
    rw [sortedAll_len] at hlt
    obtain ⟨i0, hi, hz0, hz1, hz2⟩ := info_parts info9
    have cb := ci.box.cell 0
    have hB := ci.box.lt
    simp only [List.getElem?_toArray, List.getElem?_cons_zero] at cb
    have bl1 : Below W.heap.size W (W.alloc (.cells #[.string ⟨x.toArray⟩] 9)) := (Below.refl _ W).alloc (Nat.le_refl _) _
    have ci1 := Lib.hid (ci.next bl1)
    have KF0 := Lib.hid (KF.below (foB_ok w2.heap.size) bl1)
    have hsw := ci1.out.below.size
    clear ci hr bl1 hl a0
    gi_wp2_with (gi_at_builtin; refine list_round (by rintro ⟨_, _, h⟩; exact h) _ _ _ (by kernel_rfl) ?_; refine wpList_append_own_at _ rfl _ _ 46 rfl w2.heap.size 9 i0 (.string ⟨#[]⟩) 1 16 Tryz.underlying46 hi hz0 hz1 hz2 rfl (by decide) _ _ _ rfl ci1.out.row ⟨W.heap.size, 0, none⟩ 1 1 [.string ⟨x.toArray⟩] rfl rfl (cell_one_new _ _ _) (by simp [Value.oneCell']) (by simp only [maxLen]; omega) (by omega) hsw ?_)
    intro v' w5 hown2 hgrow2 _ hat2
    obtain ⟨AN, cN, rfl, _⟩ := ownsRow_shape hown2
    obtain ⟨b1, kf1, ci2⟩ := ci1.out.put (Nat.le_refl _) hgrow2 hown2 (hat2.imp id (fun e => e.trans (by simp)))
    have KO1 := Lib.hid ((KeepsOthers.alloc W (.cells #[.string ⟨x.toArray⟩] 9)).trans ((keeps_row ci1.out.row hgrow2).trans (KeepsOthers.setCell w5 ⟨w2.heap.size, 0, none⟩ (.slice AN (pre.length + 1) cN))))
    have f0 := b1.frozen 0
    have g0 := b1.cell 0
    simp only [List.getElem?_toArray, List.getElem?_cons_zero] at g0
    have h200 : ¬ (200 : Int) < (pre.length : Int) + 1 := by omega
    have KF1 := Lib.hid kf1
    have CI2 := Lib.hid ci2
    clear kf1 ci2 hown2 hgrow2 hat2 b1 cb
    go_wp2_with fail
    gi_wp2
    exact ⟨KO1.out.from _, KF0.out.trans KF1.out, _, CI2.out⟩
  case done =>
    rintro D ys W hD rfl ⟨v, ci⟩ hK
    dsimp only
    have cb := ci.box.cell 0
    simp only [List.getElem?_toArray, List.getElem?_cons_zero] at cb
    have HCI := Lib.hid ci
    have HK := Lib.hid hK
    have HDs := Lib.hid hD
    obtain ⟨AG, cG, rfl, _⟩ := ownsRow_shape ci.row
    have HG := Lib.hid (StrS.of_row ci.row)
    have HW := Lib.hid (HS2.out.keep ci.below)
    clear ci hK hD a0
    rw [sortedAll_len] at cb HG
    go_wp2_with fail
    refine Calls.mono (texts24 _ _ _ W HG.out HW.out) ?_
    rintro _ w6 ⟨rfl, q6⟩
    have HB6 := Lib.hid (HB2.out.trans ((HCI.out.below.trans (q6.mono HCI.out.below.size)).mono HB2.out.size))
    have HR6 : Hid (Blk w6 w.heap.size 4 #[.bool false]) := Lib.hid (hbk (hbk HR2.out HCI.out.below) q6)
    have HW6 := Lib.hid (HW.out.keep q6)
    have HK6 : Hid (w6.heap[D]? = some (.deferred (some []))) := Lib.hid (hbk HK.out q6)
    have HD6 : Hid (w.heap.size ≤ D) := Lib.hid (by have := HDs.out; have := HB2.out.size; omega)
    clear q6 cb HG HW HK HCI HDs HR2 HB2 HS2
    obtain ⟨kk, hmod⟩ : ∃ kk : Nat, z % 69 = (kk : Int) := ⟨(z % 69).toNat, by omega⟩
    have hk68 : (kk : Int) ≤ 68 := by omega
    have hk68' : kk ≤ 68 := by omega
    go_wp2_with fail
    refine Calls.mono (all23 _) ?_
    rintro _ w7 ⟨rfl, rfl⟩
    go_wp2_with fail
    have a8 : Hid (AI (w6.alloc (.cells #[.int .i64 ((kk : Int) + 1)] 3)) (w6.heap.size + 1) [] (.slice none 0 0) ((w6.alloc (.cells #[.int .i64 ((kk : Int) + 1)] 3)).alloc (.cells #[.slice none 0 0] 46))) := Lib.hid ⟨(Below.refl _ _).alloc (Nat.le_refl _) _, by
      have := Blk.new (w6.alloc (.cells #[.int .i64 ((kk : Int) + 1)] 3)) 46 #[.slice none 0 0]
      simpa using this, World.ownsRow_nil _ _ _ _⟩
    have HKB : Hid (Blk (w6.alloc (.cells #[.int .i64 ((kk : Int) + 1)] 3)) w6.heap.size 3 #[.int .i64 ((kk : Int) + 1)]) := Lib.hid (Blk.new _ _ _)
    have HB8 := Lib.hid (HB6.out.alloc HB6.out.size (.cells #[.int .i64 ((kk : Int) + 1)] 3))
    have HR8 := Lib.hid (HR6.out.alloc (.cells #[.int .i64 ((kk : Int) + 1)] 3))
    have HW8 := Lib.hid (HW6.out.keep ((Below.refl _ _).alloc (Nat.le_refl _) (.cells #[.int .i64 ((kk : Int) + 1)] 3)))
    have HK8 : Hid ((w6.alloc (.cells #[.int .i64 ((kk : Int) + 1)] 3)).heap[D]? = some (.deferred (some []))) := Lib.hid (hbk HK6.out ((Below.refl _ _).alloc (Nat.le_refl _) (.cells #[.int .i64 ((kk : Int) + 1)] 3)))
    have HS8 : Hid ((w6.alloc (.cells #[.int .i64 ((kk : Int) + 1)] 3)).heap.size = w6.heap.size + 1) := Lib.hid (by simp)
    have hs8 : (w6.alloc (.cells #[.int .i64 ((kk : Int) + 1)] 3)).heap.size ≤ w6.heap.size + 1 := Nat.le_of_eq HS8.out
    have hs9 : (w6.alloc (.cells #[.int .i64 ((kk : Int) + 1)] 3)).heap.size ≤ ((w6.alloc (.cells #[.int .i64 ((kk : Int) + 1)] 3)).alloc (.cells #[.slice none 0 0] 46)).heap.size := by simp
    clear HB6 HR6 HW6 HK6 hmod
    generalize (w6.alloc (.cells #[.int .i64 ((kk : Int) + 1)] 3)).alloc (.cells #[.slice none 0 0] 46) = W8 at *
    generalize w6.alloc (.cells #[.int .i64 ((kk : Int) + 1)] 3) = w8 at *
    generalize w6.heap.size = S6 at *
    refine (wpIn_wide (n := 3)).1 ?_
    refine wpIn_rangeFunc_ownH rfl (by omega) (gf := 40) (lb := #[]) rfl trivial (enters_of Tryz.func40 (by kernel_rfl) rfl)
      (all40_stops 2 (by omega) (FoB (S6 + 1)) (foB_ok _) W8 (fun W' hW k hk => a8.out.foreign hk W' hW)) KF.trans (fun W l o o' _ h1 h2 _ => KF.put (foB_ok _) W l o o' h1 h2) (Below.refl _ _) (fun _ => rfl)
      (fun pre W => pre.length < kk + 1 ∧ ∃ v, AI w8 (S6 + 1) pre v W) (fun c pre W => c = .exit 2 ∧ pre.length = kk + 1 ∧ ∃ v, AI w8 (S6 + 1) pre v W)
      (fun pre W W' row hs hg hr => by
        obtain ⟨hl, v, ci⟩ := hs
        exact ⟨hl, v, ci.grow hs9 hg hr⟩)
      (fun c pre W W' row hs hg hr => by
        obtain ⟨hc, hl, v, ci⟩ := hs
        exact ⟨hc, hl, v, ci.grow hs9 hg hr⟩) ⟨by simp, _, a8.out⟩
      (fun x a' W => a' = { tmps := #[.int .u8 z, undef, .pointer (some ⟨w.heap.size, 0, none⟩), .slice vA 69 vc, .pointer (some ⟨w2.heap.size, 0, none⟩), undef, .pointer (some ⟨S6, 0, none⟩), .pointer (some ⟨S6 + 1, 0, none⟩), .string ⟨x.toArray⟩, .bool true, .bool false, .slice vA 69 vc, .func (.func 40) #[] #[], undef, undef, undef, undef, undef, undef, undef, undef, .slice AG 69 cG, .slice vA 69 vc, .bool true, .bool false, .int .u8 z, .int .i64 z, .slice vA 69 vc, .int .i64 69, .int .i64 (kk : Int), .int .i64 ((kk : Int) + 1), .func (.func 40) #[] #[], .string ⟨x.toArray⟩, undef, undef, undef, undef, undef, undef, undef, undef, undef, undef, undef, undef, undef], defers := [] })
      (fun x a' _ W W' row hs hg hr => hs) ?assign2 ?body2 ?done2 ?stop2
    case assign2 =>
      rintro l pre x W K ⟨hpl, v, ci⟩ hK
      unfold sv
      gi_wp2
      exact hK _ _ (KeepsFrom.refl _ _) (fun k cs e m h hf => ⟨rfl, hf⟩) ⟨hpl, v, ci⟩ rfl
    case body2 =>
      rintro l pre x a' W hl ⟨r, hr⟩ ⟨hpl, v, ci⟩ rfl hlt
      obtain ⟨i0, hi, hz0, hz1, hz2⟩ := info_parts info9
      have cb := ci.box.cell 0
      have hB := ci.box.lt
      simp only [List.getElem?_toArray, List.getElem?_cons_zero] at cb
      have bl1 : Below W.heap.size W (W.alloc (.cells #[.string ⟨x.toArray⟩] 9)) := (Below.refl _ W).alloc (Nat.le_refl _) _
      have ci1 := Lib.hid (ci.next bl1)
      have KF0 := Lib.hid (KF.below (foB_ok (S6 + 1)) bl1)
      have hsw := ci1.out.below.size
      clear ci hr bl1 hl a8 hlt
      gi_wp2_with (gi_at_builtin; refine list_round (by rintro ⟨_, _, h⟩; exact h) _ _ _ (by kernel_rfl) ?_; refine wpList_append_own_at _ rfl _ _ 46 rfl w8.heap.size 9 i0 (.string ⟨#[]⟩) 1 16 Tryz.underlying46 hi hz0 hz1 hz2 rfl (by decide) _ _ _ rfl ci1.out.row ⟨W.heap.size, 0, none⟩ 1 1 [.string ⟨x.toArray⟩] rfl rfl (cell_one_new _ _ _) (by simp [Value.oneCell']) (by simp only [maxLen]; omega) (by omega) hsw ?_)
      intro v' w5 hown2 hgrow2 _ hat2
      obtain ⟨AN, cN, rfl, _⟩ := ownsRow_shape hown2
      obtain ⟨b1, kf1, ci2⟩ := ci1.out.put hs8 hgrow2 hown2 (hat2.imp id (fun e => e.trans (by simp)))
      have KO1 := Lib.hid ((KeepsOthers.alloc W (.cells #[.string ⟨x.toArray⟩] 9)).trans ((keeps_row ci1.out.row hgrow2).trans (KeepsOthers.setCell w5 ⟨S6 + 1, 0, none⟩ (.slice AN (pre.length + 1) cN))))
      have f0 := b1.frozen 0
      have g0 := b1.cell 0
      simp only [List.getElem?_toArray, List.getElem?_cons_zero] at g0
      have ck : w5.cell? ⟨S6, 0, none⟩ = some (.int .i64 ((kk : Int) + 1)) := by
        rw [← World.cell?_of_block (a := ⟨S6, 0, none⟩) (Below.heap_setCell w5 ⟨S6 + 1, 0, none⟩ (.slice AN (pre.length + 1) cN) S6 (by simp))]
        have hbS : Blk (w5.setCell ⟨S6 + 1, 0, none⟩ (.slice AN (pre.length + 1) cN)) S6 3 #[.int .i64 ((kk : Int) + 1)] := HKB.out.kept (ci2.below.block S6 (by have := HS8.out; omega))
        exact hbS.cell 0
      have KF1 := Lib.hid kf1
      have CI2 := Lib.hid ci2
      obtain ⟨m, hm⟩ : ∃ m, pre.length = m := ⟨_, rfl⟩
      have HM := Lib.hid hm
      rw [hm] at hpl KF1 CI2 KO1 ⊢
      clear kf1 ci2 hown2 hgrow2 hat2 b1 cb hm
      by_cases hmk : m = kk
      · subst hmk
        go_wp2_with fail
        gi_wp2
        exact ⟨KO1.out.from _, ⟨rfl, by simp [HM.out], _, CI2.out⟩⟩
      · have h1 : ((m : Int) + 1 == (kk : Int) + 1) = false := by simp; omega
        have h2 : ((m : Int) == (kk : Int)) = false := by simp; omega
        have h3 : (m == kk) = false := by simpa using hmk
        go_wp2_with fail
        gi_wp2
        exact ⟨KO1.out.from _, KF0.out.trans KF1.out, by simp [HM.out]; omega, _, CI2.out⟩
    case done2 =>
      rintro D2 ys W hD2 rfl ⟨hl, _⟩ _
      rw [sortedAll_len] at hl
      omega
    case stop2 =>
      rintro D2 c pre W hD2 hpre ⟨rfl, hl, v, ci⟩ hK2
      gi_wp2
      have cb := ci.box.cell 0
      simp only [List.getElem?_toArray, List.getElem?_cons_zero] at cb
      have ck : W.cell? ⟨S6, 0, none⟩ = some (.int .i64 ((kk : Int) + 1)) := (HKB.out.kept (ci.below.block S6 (by have := HS8.out; omega))).cell 0
      have hr9 := HR8.out.kept (ci.below.block w.heap.size HR8.out.lt)
      have HR9 := Lib.hid hr9
      have HB9 := Lib.hid (HB8.out.trans (ci.below.mono HB8.out.size))
      have HG9 := Lib.hid (StrS.of_row ci.row)
      have HW9 := Lib.hid (HW8.out.keep ci.below)
      have HK9 : Hid (W.heap[D]? = some (.deferred (some []))) := Lib.hid (hbk HK8.out ci.below)
      have HDlt : Hid (D < D2) := Lib.hid (by
        have h1 := (Array.getElem?_eq_some_iff.1 HK8.out).1
        have h2 := hs9
        omega)
      have HK29 := Lib.hid hK2
      have hpre2 := List.prefix_iff_eq_take.1 hpre
      rw [hl] at hpre2
      have HP := Lib.hid hpre2
      obtain ⟨AS, cS, rfl, _⟩ := ownsRow_shape ci.row
      rw [hl] at HG9 cb
      have hk0 : (0 : Int) ≤ (kk : Int) + 1 := by omega
      have hkc : (kk : Int) + 1 ≤ (vc : Int) := by have := HCap.out.1; omega
      have hkt : ((kk : Int) + 1).toNat = kk + 1 := by omega
      clear ci hK2 hpre hpre2 hl hr9 HK8 HW8 HB8 HR8 a8 hD2 hs8 hs9
      go_wp2_with fail
      refine region_tail 4 (by kernel_rfl) (by kernel_rfl) ?_
      simp only [List.take_succ_cons, List.take_zero, List.drop_succ_cons, List.drop_zero]
      repeat (go_big_quiet_step (fail))
      refine wpQuiet_nil ?_
      clear hk0 hkc hkt
      go_wp2_with fail
      have HG10 := Lib.hid (HG9.out.keep ((Below.refl _ W).drew))
      have HW10 : Hid (StrS W.drew (.slice vA (kk + 1) vc) pre) := Lib.hid (by rw [HP.out]; exact (HW9.out.part (kk + 1) vc (by omega)).keep ((Below.refl _ W).drew))
      refine Calls.mono (texts24 _ _ pre W.drew HG10.out HW10.out) ?_
      rintro _ w9 ⟨rfl, q9⟩
      have qb : Below W.heap.size W w9 := ((Below.refl _ W).drew).trans q9
      have HR10 : Hid (Blk w9 w.heap.size 4 #[.bool false]) := Lib.hid (hbk HR9.out qb)
      have HK10 : Hid (w9.heap[D]? = some (.deferred (some []))) := Lib.hid (hbk HK9.out qb)
      have HK210 : Hid (w9.heap[D2]? = some (.deferred (some []))) := Lib.hid (hbk HK29.out qb)
      have HB10 := Lib.hid (HB9.out.trans (qb.mono HB9.out.size))
      have c4 : w9.cell? ⟨w.heap.size, 0, none⟩ = some (.bool false) := HR10.out.cell 0
      have f4 := HR10.out.frozen 0
      clear q9 qb HG9 HW9 HG10 HW10 HR9 HK9 HK29 HB9 ck cb
      go_wp2_with fail
      have hR : Blk (w9.setCell ⟨w.heap.size, 0, none⟩ (.bool true)) w.heap.size 4 #[.bool true] := by
        have := HR10.out.store 0 (.bool true)
        simpa using this
      have h1 : (w9.setCell ⟨w.heap.size, 0, none⟩ (.bool true)).heap[D2]? = some (.deferred (some [])) := (KeepsOthers.setCell w9 ⟨w.heap.size, 0, none⟩ (.bool true)).same D2 _ HK210.out rfl
      have h2 : ((w9.setCell ⟨w.heap.size, 0, none⟩ (.bool true)).putObj D2 (.deferred none)).heap[D]? = some (.deferred (some [])) := (World.putObj_heap_other (by have := HDlt.out; omega)).trans ((KeepsOthers.setCell w9 ⟨w.heap.size, 0, none⟩ (.bool true)).same D _ HK10.out rfl)
      have hR2 := (hR.own (grownBy_putObj' _ D2 (.deferred none)) (fun r e => by cases e; exact ⟨_, h1, rfl⟩)).own (grownBy_putObj' _ D (.deferred none)) (fun r e => by cases e; exact ⟨_, h2, rfl⟩)
      have hc5 := hR2.cell 0
      simp only [List.getElem?_toArray, List.getElem?_cons_zero] at hc5
      refine ⟨by simp, .inl ⟨_, _, rfl, run_takeDeferred h1, ?_⟩⟩
      refine ⟨by simp, .inl ⟨_, _, rfl, run_takeDeferred h2, ?_⟩⟩
      refine ⟨.bool true, ?_, rfl, ?_⟩
      · simp [results, Tryz.f6, go_sem, hc5]
      · have hb1 := HB10.out.setCell (p := ⟨w.heap.size, 0, none⟩) (Nat.le_refl _) (.bool true)
        have hd := HD6.out
        have hd2 := HDlt.out
        have hb2 := hb1.grown (grownBy_putObj' _ D2 (.deferred none)) hb1.size (fun j hj => by cases hj; omega)
        exact hb2.grown (grownBy_putObj' _ D (.deferred none)) hb2.size (fun j hj => by cases hj; omega)
  case stop =>
    rintro D c pre W _ _ h _
    exact h.elim
end Go.Proofs.YtdmbppgogdkpdaaGreatDoor
