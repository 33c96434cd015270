/-
  A family that does not know a name says so. No condition.
-/
import Derived.Test.YtdmbppgogdkpdaaGreatDoorD7
import Derived.Test.YtdmbppgogdkpdaaGreatDoorB1
import Derived.Test.YtdmbppgogdkpdaaGreatDoorB2
namespace Go.Proofs.YtdmbppgogdkpdaaGreatDoor
open Go.RowKit Go.Maps Go.Sort Go.Shelf
theorem look_none {H : Type} {P : Program} {k t e : TypeId} {R : Value → Option (DataW H × List MemPlace)} {w : World} {b n : Nat} {D : DataW H} (h : w.ownsMap P k R b n D) (K : Keyed P k) (ht : P.underlying t = some (.map k e)) {z : Value} (hz : (zeroValue e).run P w = .ok z w)
    {key : Value} {kl : Lit} (hkey : keyOf P k key = some kl) (hn : ∀ zd, D.atKey kl zd = zd) : (Instr.lookup t (.map (some b)) key true).run P w = .ok (.tuple #[z, .bool false]) w := by
  obtain ⟨es, clock, hb, F, _, rfl⟩ := h
  rcases Maps.fit_look true K ht hz hb F hkey with ⟨hrun, _, _⟩ | ⟨e0, y, _, _, _, _, hat, _⟩
  · exact hrun
  · have h1 := (hat .nil).symm.trans (hn .nil)
    have h2 := (hat (.ptr .nil)).symm.trans (hn (.ptr .nil))
    rw [h1] at h2
    cases h2
theorem look_held {P : Program} {k t e : TypeId} {w : World} {b n : Nat} {D : DataW Value} (h : w.ownsMap P k R1 b n D) (K : Keyed P k) (ht : P.underlying t = some (.map k e)) {z : Value} (hz : (zeroValue e).run P w = .ok z w)
    {key : Value} {kl : Lit} {v0 : Value} (hkey : keyOf P k key = some kl) (hn : ∀ zd, D.atKey kl zd = .held v0) : (Instr.lookup t (.map (some b)) key true).run P w = .ok (.tuple #[v0, .bool true]) w := by
  obtain ⟨es, clock, hb, F, _, rfl⟩ := h
  rcases Maps.fit_look true K ht hz hb F hkey with ⟨_, _, hat⟩ | ⟨e0, y, _, _, hrun, hR, hat, _⟩
  · have h1 := (hat .nil).symm.trans (hn .nil)
    cases h1
  · have h1 := (hat .nil).symm.trans (hn .nil)
    have h2 : y = (DataW.held e0.val, []) := by
      unfold R1 at hR
      exact (Option.some.inj hR).symm
    rw [h2] at h1
    injection h1 with h3
    rw [h3] at hrun
    exact hrun
set_option maxRecDepth 100000 in
set_option maxHeartbeats 4000000 in
theorem call43_none (s : ByteArray) (hs : s.size ≤ maxLen) (hn : ∀ zd, (dOf names86).atKey (.string s.data.toList) zd = zd) (A : Option Addr) (n c : Nat) (w : World) :
    Calls Tryz.prog 43 #[.string s, .slice A n c] w fun e w' => e = .returned (.tuple #[.agg #[.int .i64 0, .int .i64 0, .slice none 0 0], .bool false]) ∧ Below w.heap.size w w' := by
  have HK := Lib.hid hs
  have HN := Lib.hid hn
  clear hs hn
  have HB := Lib.hid ((Below.refl w.heap.size w).alloc (Nat.le_refl _) (.cells #[.int .i64 0, .int .i64 0, .slice none 0 0] 28))
  have HL := Lib.hid (new_lies w (.cells #[.int .i64 0, .int .i64 0, .slice none 0 0] 28))
  go_enter Tryz.func43, Tryz.ntmps43
  go_wp2_with fail
  refine Calls.mono (table86 _) ?_
  rintro _ w1 ⟨b, rfl, ht⟩
  have hrun := look_none (t := 88) ht.own law9 Tryz.underlying88 (Tryz.zeroValue92 _) (Go.WideMaps.keyOf_string_mk Tryz.underlying9 HK.out) HN.out
  have HB1 := Lib.hid ((HB.out.trans (ht.below.mono HB.out.size)).alloc (Nat.le_trans HB.out.size ht.below.size) (.cells #[.int .i64 0, .int .i64 0, .nilFunc] 92))
  have HL1 := Lib.hid (hbk (hbk HL.out ht.below) ((Below.refl _ _).alloc (Nat.le_refl _) (.cells #[.int .i64 0, .int .i64 0, .nilFunc] 92)))
  have HQ := Lib.hid (setRow_heap (w1.alloc (.cells #[.int .i64 0, .int .i64 0, .nilFunc] 92)) w.heap.size _ #[.int .i64 0, .int .i64 0, .slice none 0 0] _ _ HL1.out)
  have HB5 := Lib.hid (below_setRow HB1.out (Nat.le_refl _) #[.int .i64 0, .int .i64 0, .slice none 0 0])
  clear ht HB HL
  go_wp2_with (first
    | (refine wpList_store_row rfl 92 _ _ rfl w1.heap.size #[.int .i64 0, .int .i64 0, .nilFunc] rfl rfl 92 #[.int .i64 0, .int .i64 0, .nilFunc] (new_lies w1 _) (by kernel_rfl) rfl (by simp [Value.oneCell']) ?_; rw [World.setRow_alloc_new])
    | refine wpList_store_row rfl 28 _ _ rfl w.heap.size #[.int .i64 0, .int .i64 0, .slice none 0 0] rfl rfl 28 #[.int .i64 0, .int .i64 0, .slice none 0 0] HL1.out (by kernel_rfl) rfl (by simp [Value.oneCell']) ?_)
  have r0 := cell_at HQ.out (o := 0) (v := .int .i64 0) rfl
  have r1 := cell_at HQ.out (o := 1) (v := .int .i64 0) rfl
  have r2 := cell_at HQ.out (o := 2) (v := .slice none 0 0) rfl
  exact bodyPost_ret (v := .tuple #[.agg #[.int .i64 0, .int .i64 0, .slice none 0 0], .bool false]) (by simp [results, Tryz.results43, go_sem, r0, r1, r2]) rfl ⟨rfl, HB5.out⟩
set_option maxRecDepth 100000 in
set_option maxHeartbeats 4000000 in
theorem call46_none (s : ByteArray) (hs : s.size ≤ maxLen) (hn : ∀ zd, (dOf names90).atKey (.string s.data.toList) zd = zd) (A : Option Addr) (n c : Nat) (w : World) :
    Calls Tryz.prog 46 #[.string s, .slice A n c] w fun e w' => e = .returned (.tuple #[.agg #[.int .i64 0, .int .i64 0, .slice none 0 0], .bool false]) ∧ Below w.heap.size w w' := by
  have HK := Lib.hid hs
  have HN := Lib.hid hn
  clear hs hn
  have HB := Lib.hid ((Below.refl w.heap.size w).alloc (Nat.le_refl _) (.cells #[.int .i64 0, .int .i64 0, .slice none 0 0] 28))
  have HL := Lib.hid (new_lies w (.cells #[.int .i64 0, .int .i64 0, .slice none 0 0] 28))
  go_enter Tryz.func46, Tryz.ntmps46
  go_wp2_with fail
  refine Calls.mono (table90 _) ?_
  rintro _ w1 ⟨b, rfl, ht⟩
  have hrun := look_none (t := 96) ht.own law9 Tryz.underlying96 (Tryz.zeroValue98 _) (Go.WideMaps.keyOf_string_mk Tryz.underlying9 HK.out) HN.out
  have HB1 := Lib.hid ((HB.out.trans (ht.below.mono HB.out.size)).alloc (Nat.le_trans HB.out.size ht.below.size) (.cells #[.int .i64 0, .int .i64 0, .nilFunc] 98))
  have HL1 := Lib.hid (hbk (hbk HL.out ht.below) ((Below.refl _ _).alloc (Nat.le_refl _) (.cells #[.int .i64 0, .int .i64 0, .nilFunc] 98)))
  have HQ := Lib.hid (setRow_heap (w1.alloc (.cells #[.int .i64 0, .int .i64 0, .nilFunc] 98)) w.heap.size _ #[.int .i64 0, .int .i64 0, .slice none 0 0] _ _ HL1.out)
  have HB5 := Lib.hid (below_setRow HB1.out (Nat.le_refl _) #[.int .i64 0, .int .i64 0, .slice none 0 0])
  clear ht HB HL
  go_wp2_with (first
    | (refine wpList_store_row rfl 98 _ _ rfl w1.heap.size #[.int .i64 0, .int .i64 0, .nilFunc] rfl rfl 98 #[.int .i64 0, .int .i64 0, .nilFunc] (new_lies w1 _) (by kernel_rfl) rfl (by simp [Value.oneCell']) ?_; rw [World.setRow_alloc_new])
    | refine wpList_store_row rfl 28 _ _ rfl w.heap.size #[.int .i64 0, .int .i64 0, .slice none 0 0] rfl rfl 28 #[.int .i64 0, .int .i64 0, .slice none 0 0] HL1.out (by kernel_rfl) rfl (by simp [Value.oneCell']) ?_)
  have r0 := cell_at HQ.out (o := 0) (v := .int .i64 0) rfl
  have r1 := cell_at HQ.out (o := 1) (v := .int .i64 0) rfl
  have r2 := cell_at HQ.out (o := 2) (v := .slice none 0 0) rfl
  exact bodyPost_ret (v := .tuple #[.agg #[.int .i64 0, .int .i64 0, .slice none 0 0], .bool false]) (by simp [results, Tryz.results46, go_sem, r0, r1, r2]) rfl ⟨rfl, HB5.out⟩
set_option maxRecDepth 100000 in
set_option maxHeartbeats 4000000 in
theorem call52_none (s : ByteArray) (hs : s.size ≤ maxLen) (hn : ∀ zd, (dOf names96).atKey (.string s.data.toList) zd = zd) (A : Option Addr) (n c : Nat) (w : World) :
    Calls Tryz.prog 52 #[.string s, .slice A n c] w fun e w' => e = .returned (.tuple #[.agg #[.int .i64 0, .int .i64 0, .slice none 0 0], .bool false]) ∧ Below w.heap.size w w' := by
  have HK := Lib.hid hs
  have HN := Lib.hid hn
  clear hs hn
  have HB := Lib.hid ((Below.refl w.heap.size w).alloc (Nat.le_refl _) (.cells #[.int .i64 0, .int .i64 0, .slice none 0 0] 28))
  have HL := Lib.hid (new_lies w (.cells #[.int .i64 0, .int .i64 0, .slice none 0 0] 28))
  go_enter Tryz.func52, Tryz.ntmps52
  go_wp2_with fail
  refine Calls.mono (table96 _) ?_
  rintro _ w1 ⟨b, rfl, ht⟩
  have hrun := look_none (t := 108) ht.own law9 Tryz.underlying108 (Tryz.zeroValue110 _) (Go.WideMaps.keyOf_string_mk Tryz.underlying9 HK.out) HN.out
  have HB1 := Lib.hid ((HB.out.trans (ht.below.mono HB.out.size)).alloc (Nat.le_trans HB.out.size ht.below.size) (.cells #[.int .i64 0, .int .i64 0, .nilFunc] 110))
  have HL1 := Lib.hid (hbk (hbk HL.out ht.below) ((Below.refl _ _).alloc (Nat.le_refl _) (.cells #[.int .i64 0, .int .i64 0, .nilFunc] 110)))
  have HQ := Lib.hid (setRow_heap (w1.alloc (.cells #[.int .i64 0, .int .i64 0, .nilFunc] 110)) w.heap.size _ #[.int .i64 0, .int .i64 0, .slice none 0 0] _ _ HL1.out)
  have HB5 := Lib.hid (below_setRow HB1.out (Nat.le_refl _) #[.int .i64 0, .int .i64 0, .slice none 0 0])
  clear ht HB HL
  go_wp2_with (first
    | (refine wpList_store_row rfl 110 _ _ rfl w1.heap.size #[.int .i64 0, .int .i64 0, .nilFunc] rfl rfl 110 #[.int .i64 0, .int .i64 0, .nilFunc] (new_lies w1 _) (by kernel_rfl) rfl (by simp [Value.oneCell']) ?_; rw [World.setRow_alloc_new])
    | refine wpList_store_row rfl 28 _ _ rfl w.heap.size #[.int .i64 0, .int .i64 0, .slice none 0 0] rfl rfl 28 #[.int .i64 0, .int .i64 0, .slice none 0 0] HL1.out (by kernel_rfl) rfl (by simp [Value.oneCell']) ?_)
  have r0 := cell_at HQ.out (o := 0) (v := .int .i64 0) rfl
  have r1 := cell_at HQ.out (o := 1) (v := .int .i64 0) rfl
  have r2 := cell_at HQ.out (o := 2) (v := .slice none 0 0) rfl
  exact bodyPost_ret (v := .tuple #[.agg #[.int .i64 0, .int .i64 0, .slice none 0 0], .bool false]) (by simp [results, Tryz.results52, go_sem, r0, r1, r2]) rfl ⟨rfl, HB5.out⟩
set_option maxRecDepth 100000 in
set_option maxHeartbeats 4000000 in
theorem call55_none (s : ByteArray) (hs : s.size ≤ maxLen) (hn : ∀ zd, (dOf names99).atKey (.string s.data.toList) zd = zd) (A : Option Addr) (n c : Nat) (w : World) :
    Calls Tryz.prog 55 #[.string s, .slice A n c] w fun e w' => e = .returned (.tuple #[.agg #[.int .i64 0, .int .i64 0, .slice none 0 0], .bool false]) ∧ Below w.heap.size w w' := by
  have HK := Lib.hid hs
  have HN := Lib.hid hn
  clear hs hn
  have HB := Lib.hid ((Below.refl w.heap.size w).alloc (Nat.le_refl _) (.cells #[.int .i64 0, .int .i64 0, .slice none 0 0] 28))
  have HL := Lib.hid (new_lies w (.cells #[.int .i64 0, .int .i64 0, .slice none 0 0] 28))
  go_enter Tryz.func55, Tryz.ntmps55
  go_wp2_with fail
  refine Calls.mono (table99 _) ?_
  rintro _ w1 ⟨b, rfl, ht⟩
  have hrun := look_none (t := 114) ht.own law9 Tryz.underlying114 (Tryz.zeroValue116 _) (Go.WideMaps.keyOf_string_mk Tryz.underlying9 HK.out) HN.out
  have HB1 := Lib.hid ((HB.out.trans (ht.below.mono HB.out.size)).alloc (Nat.le_trans HB.out.size ht.below.size) (.cells #[.int .i64 0, .int .i64 0, .nilFunc] 116))
  have HL1 := Lib.hid (hbk (hbk HL.out ht.below) ((Below.refl _ _).alloc (Nat.le_refl _) (.cells #[.int .i64 0, .int .i64 0, .nilFunc] 116)))
  have HQ := Lib.hid (setRow_heap (w1.alloc (.cells #[.int .i64 0, .int .i64 0, .nilFunc] 116)) w.heap.size _ #[.int .i64 0, .int .i64 0, .slice none 0 0] _ _ HL1.out)
  have HB5 := Lib.hid (below_setRow HB1.out (Nat.le_refl _) #[.int .i64 0, .int .i64 0, .slice none 0 0])
  clear ht HB HL
  go_wp2_with (first
    | (refine wpList_store_row rfl 116 _ _ rfl w1.heap.size #[.int .i64 0, .int .i64 0, .nilFunc] rfl rfl 116 #[.int .i64 0, .int .i64 0, .nilFunc] (new_lies w1 _) (by kernel_rfl) rfl (by simp [Value.oneCell']) ?_; rw [World.setRow_alloc_new])
    | refine wpList_store_row rfl 28 _ _ rfl w.heap.size #[.int .i64 0, .int .i64 0, .slice none 0 0] rfl rfl 28 #[.int .i64 0, .int .i64 0, .slice none 0 0] HL1.out (by kernel_rfl) rfl (by simp [Value.oneCell']) ?_)
  have r0 := cell_at HQ.out (o := 0) (v := .int .i64 0) rfl
  have r1 := cell_at HQ.out (o := 1) (v := .int .i64 0) rfl
  have r2 := cell_at HQ.out (o := 2) (v := .slice none 0 0) rfl
  exact bodyPost_ret (v := .tuple #[.agg #[.int .i64 0, .int .i64 0, .slice none 0 0], .bool false]) (by simp [results, Tryz.results55, go_sem, r0, r1, r2]) rfl ⟨rfl, HB5.out⟩
end Go.Proofs.YtdmbppgogdkpdaaGreatDoor
