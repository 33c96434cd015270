/-
  counterpaneref22.Lazy, eval.Lazy: their contracts. No condition.
-/
import Derived.Test.YtccnkkffeokgcaaGreatDoorQ18
import Derived.Maps.OwnSet
namespace Go.Proofs.YtccnkkffeokgcaaGreatDoor
open Go.RowKit Go.Maps Go.WideMaps
/-- Is it a lazy function's name? -/
def lazyB (s : ByteArray) : Bool := decide (s.toList = [73, 70]) || decide (s.toList = [73, 70, 69, 82, 82, 79, 82]) || decide (s.toList = [73, 70, 78, 65]) || decide (s.toList = [67, 72, 79, 79, 83, 69]) || decide (s.toList = [83, 87, 73, 84, 67, 72]) || decide (s.toList = [76, 69, 84])
set_option maxRecDepth 100000 in
set_option maxHeartbeats 4000000 in
theorem rlazy_c (s : ByteArray) (w : World) : Calls Tryz.prog 9 #[.string s] w fun e w' => e = .returned (.bool (lazyB s)) ∧ Below w.heap.size w w' := by
  have hl : lazyB s = (decide (s.toList = [73, 70]) || decide (s.toList = [73, 70, 69, 82, 82, 79, 82]) || decide (s.toList = [73, 70, 78, 65]) || decide (s.toList = [67, 72, 79, 79, 83, 69]) || decide (s.toList = [83, 87, 73, 84, 67, 72]) || decide (s.toList = [76, 69, 84])) := rfl
  by_cases h1 : s.toList = [73, 70]
  case pos =>
    go_enter Tryz.func9, Tryz.ntmps9
    go_wp2_with fail
    go_ret
    exact ⟨by rw [hl]; simp [*], Below.refl _ _⟩
  by_cases h2 : s.toList = [73, 70, 69, 82, 82, 79, 82]
  case pos =>
    go_enter Tryz.func9, Tryz.ntmps9
    go_wp2_with fail
    go_ret
    exact ⟨by rw [hl]; simp [*], Below.refl _ _⟩
  by_cases h3 : s.toList = [73, 70, 78, 65]
  case pos =>
    go_enter Tryz.func9, Tryz.ntmps9
    go_wp2_with fail
    go_ret
    exact ⟨by rw [hl]; simp [*], Below.refl _ _⟩
  by_cases h4 : s.toList = [67, 72, 79, 79, 83, 69]
  case pos =>
    go_enter Tryz.func9, Tryz.ntmps9
    go_wp2_with fail
    go_ret
    exact ⟨by rw [hl]; simp [*], Below.refl _ _⟩
  by_cases h5 : s.toList = [83, 87, 73, 84, 67, 72]
  case pos =>
    go_enter Tryz.func9, Tryz.ntmps9
    go_wp2_with fail
    go_ret
    exact ⟨by rw [hl]; simp [*], Below.refl _ _⟩
  by_cases h6 : s.toList = [76, 69, 84]
  case pos =>
    go_enter Tryz.func9, Tryz.ntmps9
    go_wp2_with fail
    go_ret
    exact ⟨by rw [hl]; simp [*], Below.refl _ _⟩
  go_enter Tryz.func9, Tryz.ntmps9
  go_wp2_with fail
  go_ret
  exact ⟨by rw [hl]; simp [*], Below.refl _ _⟩
def rAny (_ : Value) : Option (DataW Unit × List MemPlace) := some (.lit (.bool true), [])
def lazyMap : DataW Unit := (DataW.put (DataW.put (DataW.put (DataW.put (DataW.put (DataW.put (DataW.map [] : DataW Unit) (.string [73, 70]) (.lit (.bool true))) (.string [73, 70, 69, 82, 82, 79, 82]) (.lit (.bool true))) (.string [73, 70, 78, 65]) (.lit (.bool true))) (.string [67, 72, 79, 79, 83, 69]) (.lit (.bool true))) (.string [83, 87, 73, 84, 67, 72]) (.lit (.bool true))) (.string [76, 69, 84]) (.lit (.bool true)))
set_option maxRecDepth 100000 in
set_option maxHeartbeats 4000000 in
theorem functions_c (X : Nat) (w : World) : Calls Tryz.prog 20 #[.pointer (some ⟨X, 0, none⟩)] w fun e w' => e = .returned (.map (some w.heap.size)) ∧ w'.ownsMap Tryz.prog 9 rAny w.heap.size 6 lazyMap ∧ Below w.heap.size w w' := by
  have K : Keyed Tryz.prog 9 := string_keyed Tryz.underlying9
  have hmk : ∀ W : World, (Instr.makeMap 71 none).run Tryz.prog W = .ok (.map (some W.heap.size)) (W.alloc (.map #[] 0)) := fun _ => rfl
  have o0 := World.ownsMap_made w Tryz.prog 9 rAny
  obtain ⟨w1, e1, o1, g1⟩ := o0.update K Tryz.underlying71 (by simp only [maxLen]; omega) (key := .string ⟨#[73, 70]⟩) (val := .func (.func 39) #[.pointer (some ⟨X, 0, none⟩)] #[]) (kl := .string [73, 70]) (keyOf_string_mk Tryz.underlying9 (by simp only [maxLen]; decide)) (show rAny _ = _ from rfl)
  obtain ⟨w2, e2, o2, g2⟩ := o1.update K Tryz.underlying71 (by simp only [maxLen]; omega) (key := .string ⟨#[73, 70, 69, 82, 82, 79, 82]⟩) (val := .func (.func 40) #[.pointer (some ⟨X, 0, none⟩)] #[]) (kl := .string [73, 70, 69, 82, 82, 79, 82]) (keyOf_string_mk Tryz.underlying9 (by simp only [maxLen]; decide)) (show rAny _ = _ from rfl)
  obtain ⟨w3, e3, o3, g3⟩ := o2.update K Tryz.underlying71 (by simp only [maxLen]; omega) (key := .string ⟨#[73, 70, 78, 65]⟩) (val := .func (.func 41) #[.pointer (some ⟨X, 0, none⟩)] #[]) (kl := .string [73, 70, 78, 65]) (keyOf_string_mk Tryz.underlying9 (by simp only [maxLen]; decide)) (show rAny _ = _ from rfl)
  obtain ⟨w4, e4, o4, g4⟩ := o3.update K Tryz.underlying71 (by simp only [maxLen]; omega) (key := .string ⟨#[67, 72, 79, 79, 83, 69]⟩) (val := .func (.func 42) #[.pointer (some ⟨X, 0, none⟩)] #[]) (kl := .string [67, 72, 79, 79, 83, 69]) (keyOf_string_mk Tryz.underlying9 (by simp only [maxLen]; decide)) (show rAny _ = _ from rfl)
  obtain ⟨w5, e5, o5, g5⟩ := o4.update K Tryz.underlying71 (by simp only [maxLen]; omega) (key := .string ⟨#[83, 87, 73, 84, 67, 72]⟩) (val := .func (.func 43) #[.pointer (some ⟨X, 0, none⟩)] #[]) (kl := .string [83, 87, 73, 84, 67, 72]) (keyOf_string_mk Tryz.underlying9 (by simp only [maxLen]; decide)) (show rAny _ = _ from rfl)
  obtain ⟨w6, e6, o6, g6⟩ := o5.update K Tryz.underlying71 (by simp only [maxLen]; omega) (key := .string ⟨#[76, 69, 84]⟩) (val := .func (.func 44) #[.pointer (some ⟨X, 0, none⟩)] #[]) (kl := .string [76, 69, 84]) (keyOf_string_mk Tryz.underlying9 (by simp only [maxLen]; decide)) (show rAny _ = _ from rfl)
  have HO := Lib.hid (show w6.ownsMap Tryz.prog 9 rAny w.heap.size 6 lazyMap from o6)
  have b0 : Below w.heap.size w (w.alloc (.map #[] 0)) := (Below.refl _ w).alloc (Nat.le_refl _) (.map #[] 0)
  have hb : ∀ k, some w.heap.size = some k → w.heap.size ≤ k := fun k hk => by cases hk; exact Nat.le_refl _
  have HB := Lib.hid (below_grew (below_grew (below_grew (below_grew (below_grew (below_grew b0 g1 hb) g2 hb) g3 hb) g4 hb) g5 hb) g6 hb)
  clear o0 o1 o2 o3 o4 o5 o6 g1 g2 g3 g4 g5 g6 b0 hb K
  go_enter Tryz.func20, Tryz.ntmps20
  go_wp2_with fail
  clear e1 e2 e3 e4 e5 e6
  go_ret
  exact ⟨rfl, HO.out, HB.out⟩
theorem zero69 (w : World) : (zeroValue 69).run Tryz.prog w = .ok .nilFunc w := by kernel_rfl
theorem lazyMap_eq : lazyMap = .map [(.string [67, 72, 79, 79, 83, 69], .lit (.bool true)), (.string [73, 70], .lit (.bool true)), (.string [73, 70, 69, 82, 82, 79, 82], .lit (.bool true)), (.string [73, 70, 78, 65], .lit (.bool true)), (.string [76, 69, 84], .lit (.bool true)), (.string [83, 87, 73, 84, 67, 72], .lit (.bool true))] := by rfl
theorem has_lazy (s : ByteArray) : Maps.has lazyMap (.string s.data.toList) = lazyB s := by
  rw [lazyMap_eq]
  unfold lazyB
  rw [show s.toList = s.data.toList from ByteArray.toList_eq s]
  generalize s.data.toList = x
  have e : ∀ l : List UInt8, (l == x) = decide (x = l) := fun l => by
    by_cases h : x = l
    · subst h; simp
    · simp [h, Ne.symm h]
  simp only [Maps.has, List.any_cons, List.any_nil, Lit.sameKey, e]
  generalize decide (x = [73, 70]) = a1
  generalize decide (x = [73, 70, 69, 82, 82, 79, 82]) = a2
  generalize decide (x = [73, 70, 78, 65]) = a3
  generalize decide (x = [67, 72, 79, 79, 83, 69]) = a4
  generalize decide (x = [83, 87, 73, 84, 67, 72]) = a5
  generalize decide (x = [76, 69, 84]) = a6
  revert a1 a2 a3 a4 a5 a6
  decide
set_option maxRecDepth 100000 in
set_option maxHeartbeats 4000000 in
theorem lazy_c (s : ByteArray) (hs : s.size ≤ 100) (w : World) : Calls Tryz.prog 8 #[.string s] w fun e w' => e = .returned (.bool (lazyB s)) ∧ Below w.heap.size w w' := by
  have HB := Lib.hid ((Below.refl _ w).alloc (Nat.le_refl _) (.cells #[.pointer none, .nilIface, .nilIface, .map none] 78))
  have HS := Lib.hid hs
  clear hs
  go_enter Tryz.func8, Tryz.ntmps8
  go_wp2_with fail
  generalize w.alloc (.cells #[.pointer none, .nilIface, .nilIface, .map none] 78) = V at *
  refine (functions_c _ _).mono ?_
  rintro y w1 ⟨rfl, O1, B1⟩
  have HB1 := Lib.hid (HB.out.trans (B1.mono HB.out.size))
  obtain ⟨v, ps, el, _⟩ := O1.look_ok (string_keyed Tryz.underlying9) Tryz.underlying71 (zero69 w1) (show rAny _ = _ from rfl) (keyOf_string_mk Tryz.underlying9 (s := s) (by have := HS.out; simp only [maxLen]; omega))
  rw [has_lazy] at el
  clear O1 B1 HB
  go_wp2_with fail
  go_ret
  exact ⟨rfl, HB1.out⟩
end Go.Proofs.YtccnkkffeokgcaaGreatDoor
