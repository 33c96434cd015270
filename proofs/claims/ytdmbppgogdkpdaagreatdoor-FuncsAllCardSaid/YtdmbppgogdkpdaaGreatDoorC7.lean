/-
  Known, as the program has it; the reference's list of all names, and Known, as it has it. No condition.
-/
import Derived.Test.YtdmbppgogdkpdaaGreatDoorC4
import Derived.Test.YtdmbppgogdkpdaaGreatDoorC5
namespace Go.Proofs.YtdmbppgogdkpdaaGreatDoor
open Go.RowKit Go.Maps Go.Sort Go.Shelf
set_option maxRecDepth 100000 in
theorem known10 (s : ByteArray) (w : World) : Calls Tryz.prog 10 #[.string s] w fun e w' => e = .returned (.bool (countP s.toList).2.2) ∧ Below w.heap.size w w' := by
  go_enter Tryz.func10, Tryz.ntmps10
  go_wp2_with fail
  refine Calls.mono (count8 s w) ?_
  rintro _ w1 ⟨rfl, q⟩
  have Q := Lib.hid q; clear q
  go_wp2_with fail
  go_ret
  exact ⟨rfl, Q.out⟩
theorem row_below {w w' : World} {B : Nat} {v : Value} {n : Nat} {xs : List Value} (h : w.ownsRow B 9 1 v n xs) (q : Below w.heap.size w w') : w'.ownsRow B 9 1 v n xs := by
  refine ⟨h.1, ?_⟩
  rcases h.2 with hn | ⟨g, cap, cur, hv, hb, hg, rest⟩
  · exact .inl hn
  · exact .inr ⟨g, cap, cur, hv, hb, hbk hg q, rest⟩
theorem row_empty (w : World) : (w.alloc (.cells #[] 9)).ownsRow w.heap.size 9 1 (.slice (some ⟨w.heap.size, 0, none⟩) 0 0) 0 [] :=
  ⟨rfl, .inr ⟨w.heap.size, 0, #[], rfl, Nat.le_refl _, new_lies w (.cells #[] 9), Nat.le_refl _, Nat.zero_le _, rfl, rfl⟩⟩
/-- A slice of strings has an address where it holds some. -/
theorem StrS.open {w : World} {v : Value} {L : List (List UInt8)} (h : StrS w v L) (hL : L ≠ []) : ∃ b off c, v = .slice (some ⟨b, off, none⟩) L.length c ∧ ∀ j u, (L.map encStr)[j]? = some u → w.cell? ((⟨b, off, none⟩ : Addr).add j) = some u := by
  obtain ⟨A, c, rfl, _, hr⟩ := h
  obtain ⟨b, off, rfl, _, _, hc⟩ := hr (by simpa using hL)
  refine ⟨b, off, c, rfl, fun j u hu => ?_⟩
  obtain ⟨hj, rfl⟩ := List.getElem?_eq_some_iff.1 hu
  have add : (⟨b, off, none⟩ : Addr).add j = ⟨b, off + j, none⟩ := by unfold Addr.add; split <;> simp_all
  rw [add]
  exact hc j hj
theorem one_names (L : List (List UInt8)) : ∀ u ∈ L.map encStr, u.oneCell' = true := by
  intro u hu
  obtain ⟨x, _, rfl⟩ := List.mem_map.1 hu
  rfl
set_option maxRecDepth 100000 in
set_option maxHeartbeats 4000000 in
theorem refNames35r (w : World) : Calls Tryz.prog 35 #[] w fun e w' => ∃ v, e = .returned v ∧ w'.ownsRow w.heap.size 9 1 v namesAll.length (namesAll.map encStr) ∧ Below w.heap.size w w' := by
  obtain ⟨i0, hi, hz0, hz1, hz2⟩ := info_parts info9
  have HI := Lib.hid hi
  have H0 := Lib.hid hz0
  have H1 := Lib.hid hz1
  have H2 := Lib.hid hz2
  clear hi hz0 hz1 hz2
  have HR := Lib.hid (row_empty w)
  have HB := Lib.hid ((Below.refl w.heap.size w).alloc (Nat.le_refl _) (.cells #[] 9))
  go_enter Tryz.func35, Tryz.ntmps35
  go_wp2_with fail
  refine Calls.mono ((refNames29) _) ?_
  rintro _ wa ⟨v, rfl, S, q⟩
  obtain ⟨b, off, c, rfl, hn⟩ := S.open (by decide)
  have HN := Lib.hid hn
  have HR' := Lib.hid (row_below HR.out q)
  have HB' := Lib.hid (HB.out.trans (q.mono HB.out.size))
  clear HR HB hn S q
  go_wp2_with (at_builtin; refine wpList_append_own_at _ rfl _ _ 46 rfl w.heap.size 9 i0 (.string ⟨#[]⟩) 1 16 Tryz.underlying46 HI.out H0.out H1.out H2.out rfl (by decide) _ _ _ rfl HR'.out ⟨b, off, none⟩ namesMath.length c (namesMath.map encStr) rfl (by simp) HN.out (one_names namesMath) (by decide) (by decide) HB'.out.size ?_; intro v' w' hown hg _ _; go_frame; have HR := Lib.hid (show w'.ownsRow w.heap.size 9 1 v' (namesMath).length ((namesMath).map encStr) from hown); have HB := Lib.hid (HB'.out.grown hg HB'.out.size (fun j hj => (HR'.out.lt j hj).1)); clear HR' HB' HN hown hg)
  refine Calls.mono ((refNames58) _) ?_
  rintro _ wa ⟨v, rfl, S, q⟩
  obtain ⟨b, off, c, rfl, hn⟩ := S.open (by decide)
  have HN := Lib.hid hn
  have HR' := Lib.hid (row_below HR.out q)
  have HB' := Lib.hid (HB.out.trans (q.mono HB.out.size))
  clear HR HB hn S q
  go_wp2_with (at_builtin; refine wpList_append_own_at _ rfl _ _ 46 rfl w.heap.size 9 i0 (.string ⟨#[]⟩) 1 16 Tryz.underlying46 HI.out H0.out H1.out H2.out rfl (by decide) _ _ _ rfl HR'.out ⟨b, off, none⟩ namesText.length c (namesText.map encStr) rfl (by simp) HN.out (one_names namesText) (by decide) (by decide) HB'.out.size ?_; intro v' w' hown hg _ _; go_frame; have HR := Lib.hid (show w'.ownsRow w.heap.size 9 1 v' (namesMath ++ namesText).length ((namesMath ++ namesText).map encStr) from hown); have HB := Lib.hid (HB'.out.grown hg HB'.out.size (fun j hj => (HR'.out.lt j hj).1)); clear HR' HB' HN hown hg)
  refine Calls.mono ((refNames31) _) ?_
  rintro _ wa ⟨v, rfl, S, q⟩
  obtain ⟨b, off, c, rfl, hn⟩ := S.open (by decide)
  have HN := Lib.hid hn
  have HR' := Lib.hid (row_below HR.out q)
  have HB' := Lib.hid (HB.out.trans (q.mono HB.out.size))
  clear HR HB hn S q
  go_wp2_with (at_builtin; refine wpList_append_own_at _ rfl _ _ 46 rfl w.heap.size 9 i0 (.string ⟨#[]⟩) 1 16 Tryz.underlying46 HI.out H0.out H1.out H2.out rfl (by decide) _ _ _ rfl HR'.out ⟨b, off, none⟩ namesLogic.length c (namesLogic.map encStr) rfl (by simp) HN.out (one_names namesLogic) (by decide) (by decide) HB'.out.size ?_; intro v' w' hown hg _ _; go_frame; have HR := Lib.hid (show w'.ownsRow w.heap.size 9 1 v' (namesMath ++ namesText ++ namesLogic).length ((namesMath ++ namesText ++ namesLogic).map encStr) from hown); have HB := Lib.hid (HB'.out.grown hg HB'.out.size (fun j hj => (HR'.out.lt j hj).1)); clear HR' HB' HN hown hg)
  refine Calls.mono ((refNames33) _) ?_
  rintro _ wa ⟨v, rfl, S, q⟩
  obtain ⟨b, off, c, rfl, hn⟩ := S.open (by decide)
  have HN := Lib.hid hn
  have HR' := Lib.hid (row_below HR.out q)
  have HB' := Lib.hid (HB.out.trans (q.mono HB.out.size))
  clear HR HB hn S q
  go_wp2_with (at_builtin; refine wpList_append_own_at _ rfl _ _ 46 rfl w.heap.size 9 i0 (.string ⟨#[]⟩) 1 16 Tryz.underlying46 HI.out H0.out H1.out H2.out rfl (by decide) _ _ _ rfl HR'.out ⟨b, off, none⟩ namesLook.length c (namesLook.map encStr) rfl (by simp) HN.out (one_names namesLook) (by decide) (by decide) HB'.out.size ?_; intro v' w' hown hg _ _; go_frame; have HR := Lib.hid (show w'.ownsRow w.heap.size 9 1 v' (namesMath ++ namesText ++ namesLogic ++ namesLook).length ((namesMath ++ namesText ++ namesLogic ++ namesLook).map encStr) from hown); have HB := Lib.hid (HB'.out.grown hg HB'.out.size (fun j hj => (HR'.out.lt j hj).1)); clear HR' HB' HN hown hg)
  refine Calls.mono ((refNames59) _) ?_
  rintro _ wa ⟨v, rfl, S, q⟩
  obtain ⟨b, off, c, rfl, hn⟩ := S.open (by decide)
  have HN := Lib.hid hn
  have HR' := Lib.hid (row_below HR.out q)
  have HB' := Lib.hid (HB.out.trans (q.mono HB.out.size))
  clear HR HB hn S q
  go_wp2_with (at_builtin; refine wpList_append_own_at _ rfl _ _ 46 rfl w.heap.size 9 i0 (.string ⟨#[]⟩) 1 16 Tryz.underlying46 HI.out H0.out H1.out H2.out rfl (by decide) _ _ _ rfl HR'.out ⟨b, off, none⟩ namesArray.length c (namesArray.map encStr) rfl (by simp) HN.out (one_names namesArray) (by decide) (by decide) HB'.out.size ?_; intro v' w' hown hg _ _; go_frame; have HR := Lib.hid (show w'.ownsRow w.heap.size 9 1 v' (namesAll).length ((namesAll).map encStr) from hown); have HB := Lib.hid (HB'.out.grown hg HB'.out.size (fun j hj => (HR'.out.lt j hj).1)); clear HR' HB' HN hown hg)
  go_ret
  exact ⟨_, rfl, HR.out, HB.out⟩
theorem refNames35 (w : World) : Calls Tryz.prog 35 #[] w fun e w' => ∃ v, e = .returned v ∧ StrS w' v namesAll ∧ Below w.heap.size w w' :=
  (refNames35r w).mono fun _ _ ⟨v, he, hr, hb⟩ => ⟨v, he, StrS.of_row hr, hb⟩
set_option maxRecDepth 100000 in
theorem known11 (s : ByteArray) (w : World) : Calls Tryz.prog 11 #[.string s] w fun e w' => e = .returned (.bool (knownR s.toList)) ∧ Below w.heap.size w w' := by
  go_enter Tryz.func11, Tryz.ntmps11
  go_wp2_with fail
  refine Calls.mono (lazy13 s w) ?_
  rintro _ w1 ⟨rfl, rfl⟩
  cases hl : isIn s.toList namesLazy
  · go_wp2_with fail
    refine Calls.mono (refNames35 _) ?_
    rintro _ w2 ⟨v, rfl, S, q⟩
    have HS := Lib.hid S
    have HQ := Lib.hid q
    clear S q
    go_wp2_with fail
    refine Calls.mono (in28 v _ s _ HS.out) ?_
    rintro _ w3 ⟨rfl, rfl⟩
    go_wp2_with fail
    go_ret
    exact ⟨by simp [knownR, hl], HQ.out⟩
  · go_wp2_with fail
    go_ret
    exact ⟨by simp [knownR, hl], Below.refl _ _⟩
end Go.Proofs.YtdmbppgogdkpdaaGreatDoor
