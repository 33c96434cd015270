/-
  dot.Before; (*Shared).Insert where nothing is inserted; what an insertion leaves in memory. Condition: the shared axis lies in memory.
-/
import Derived.Test.YtgmlhpkhecbkoaaS2
import Derived.Test.YtgmlhpkhecbkoaaI2
import Derived.Test.YtgmlhpkhecbkoaaJ2
namespace Go.Proofs.Ytgmlhpkhecbkoaa
open Go.RowKit

set_option maxRecDepth 100000 in
set_option maxHeartbeats 1000000 in
theorem bef_c (w : World) (a1 a2 b1 b2 : Int) :
    Calls Try.prog 64 #[.agg #[.int .i64 a1, .int .i64 a2], .agg #[.int .i64 b1, .int .i64 b2]] w fun e w' => e = .returned (.bool (bef (a1, a2) (b1, b2))) ∧ Below w.heap.size w w' := by
  by_cases h1 : a2 < b2
  · have E := Lib.hid (show true = bef (a1, a2) (b1, b2) by unfold bef; simp [h1])
    go_enter Try.func64, Try.ntmps64
    go_wp2
    go_ret
    exact ⟨ret_bool E.out, ((Below.refl _ _).alloc (Nat.le_refl _) _).alloc (by simp) _⟩
  · by_cases h2 : a2 = b2
    · subst h2
      by_cases h3 : a1 < b1
      · have E := Lib.hid (show true = bef (a1, a2) (b1, a2) by unfold bef; simp [h3])
        have hd : (a2 == a2) = true := by simp
        go_enter Try.func64, Try.ntmps64
        go_wp2
        go_ret
        exact ⟨ret_bool E.out, ((Below.refl _ _).alloc (Nat.le_refl _) _).alloc (by simp) _⟩
      · have E := Lib.hid (show false = bef (a1, a2) (b1, a2) by unfold bef; simp [h3])
        have hd : (a2 == a2) = true := by simp
        go_enter Try.func64, Try.ntmps64
        go_wp2
        go_ret
        exact ⟨ret_bool E.out, ((Below.refl _ _).alloc (Nat.le_refl _) _).alloc (by simp) _⟩
    · have hd : (a2 == b2) = false := beq_eq_false_iff_ne.2 h2
      have E := Lib.hid (show false = bef (a1, a2) (b1, b2) by unfold bef; simp [h1, hd])
      clear h2
      go_enter Try.func64, Try.ntmps64
      go_wp2
      go_ret
      exact ⟨ret_bool E.out, ((Below.refl _ _).alloc (Nat.le_refl _) _).alloc (by simp) _⟩

/-- The call returns v; the shared axis then has these; nothing but what is tagged t was turned. -/
def SAP (w : World) (own : Tags) (t p : Nat) (first : List Id) (puts cuts : List (Id × Id)) (v : Value) (e : Ending) (w' : World) : Prop :=
  e = .returned v ∧ ∃ own', Tr own t w own' w' ∧ ShAt w' own' t p first puts cuts

set_option maxRecDepth 100000 in
set_option maxHeartbeats 1000000 in
theorem sins_zero (w : World) (own : Tags) (t p : Nat) (first : List Id) (puts cuts : List (Id × Id)) (b1 b2 : Int) (h : ShAt w own t p first puts cuts) :
    Calls Try.prog 30 #[.pointer (some ⟨p, 0, none⟩), .agg #[.int .i64 b1, .int .i64 b2], .agg #[.int .i64 0, .int .i64 0]] w (SAP w own t p first puts cuts (.int .i64 1)) := by
  have hq : ideq 0 0 0 0 = true := by decide
  have H := Lib.hid h
  clear h
  go_enter Try.func30, Try.ntmps30
  go_wp2
  go_ret
  exact ⟨rfl, own, ((Tr.refl own t w).alloc _).alloc _, H.out.keep (same2 _ _)⟩
set_option maxRecDepth 100000 in
set_option maxHeartbeats 1000000 in
theorem sins_dup (w : World) (own : Tags) (t p : Nat) (first : List Id) (puts cuts : List (Id × Id)) (b1 b2 x y : Int) (h : ShAt w own t p first puts cuts) (hz : (x, y) ≠ (0, 0)) (hx : has first puts (x, y) = true) :
    Calls Try.prog 30 #[.pointer (some ⟨p, 0, none⟩), .agg #[.int .i64 b1, .int .i64 b2], .agg #[.int .i64 x, .int .i64 y]] w (SAP w own t p first puts cuts (.int .i64 4)) := by
  have hq : ideq x y 0 0 = false := ideq_false.2 (fun ⟨a, b⟩ => hz (by rw [a, b]))
  have hsp := Lib.hid (fun o o' => shas_c ((w.alloc o).alloc o') own t p first puts cuts x y (h.keep (same2 o o')))
  rw [hx] at hsp
  have H := Lib.hid h
  clear h hx hz
  go_enter Try.func30, Try.ntmps30
  go_wp2_with fail
  refine (hsp.out _ _).mono ?_
  rintro e w1 ⟨rfl, hB⟩
  have HB := Lib.hid hB
  clear hB
  go_wp2_with fail
  go_ret
  exact ⟨rfl, own, (((Tr.refl own t w).alloc _).alloc _).below HB.out, (H.out.keep (same2 _ _)).next HB.out⟩
set_option maxRecDepth 100000 in
set_option maxHeartbeats 1000000 in
theorem sins_out (w : World) (own : Tags) (t p : Nat) (first : List Id) (puts cuts : List (Id × Id)) (b1 b2 x y : Int) (h : ShAt w own t p first puts cuts) (hz : (x, y) ≠ (0, 0)) (hx : has first puts (x, y) = false) (hb : (b1, b2) ≠ (0, 0)) (hbx : has first puts (b1, b2) = false) :
    Calls Try.prog 30 #[.pointer (some ⟨p, 0, none⟩), .agg #[.int .i64 b1, .int .i64 b2], .agg #[.int .i64 x, .int .i64 y]] w (SAP w own t p first puts cuts (.int .i64 3)) := by
  have hq : ideq x y 0 0 = false := ideq_false.2 (fun ⟨a, b⟩ => hz (by rw [a, b]))
  have hq2 : ideq b1 b2 0 0 = false := ideq_false.2 (fun ⟨a, b⟩ => hb (by rw [a, b]))
  have hsp := Lib.hid (fun o o' => shas_c ((w.alloc o).alloc o') own t p first puts cuts x y (h.keep (same2 o o')))
  rw [hx] at hsp
  have hsq := Lib.hid (fun W (k : ShAt W own t p first puts cuts) => shas_c W own t p first puts cuts b1 b2 k)
  rw [hbx] at hsq
  have H := Lib.hid h
  clear h hx hz hb hbx
  go_enter Try.func30, Try.ntmps30
  go_wp2_with fail
  refine (hsp.out _ _).mono ?_
  rintro e w1 ⟨rfl, hB⟩
  have H1 := Lib.hid ((H.out.keep (same2 _ _)).next hB)
  have T1 := Lib.hid ((((Tr.refl own t w).alloc _).alloc _).below hB)
  have e0 := (hB.cell (p := ⟨w.heap.size, 0, none⟩) (by simp; omega)).trans (by simp : _ = some (.int .i64 b1))
  have e1 := (hB.cell (p := ⟨w.heap.size, 1, none⟩) (by simp; omega)).trans (by simp : _ = some (.int .i64 b2))
  clear hB
  go_wp2_with fail
  refine (hsq.out _ H1.out).mono ?_
  rintro e w2 ⟨rfl, hB2⟩
  have HB2 := Lib.hid hB2
  clear hB2
  go_wp2_with fail
  go_ret
  exact ⟨rfl, own, T1.out.below HB2.out, H1.out.next HB2.out⟩

theorem getKV_put {α : Type} (k b : Id) (v : α) (l : List (Id × α)) : getKV k (putKV b v l) = if k = b then some v else getKV k l := by
  induction l with
  | nil =>
    simp only [putKV, getKV]
    by_cases h : b = k
    · rw [if_pos h, if_pos h.symm]
    · rw [if_neg h, if_neg (fun e => h e.symm)]
  | cons x l ih =>
    simp only [putKV]
    by_cases h : x.1 = b
    · rw [if_pos h]
      simp only [getKV]
      by_cases hk : k = b
      · rw [if_pos hk, if_pos (h.trans hk.symm)]
      · have hx : ¬ x.1 = k := fun e => hk (e.symm.trans h)
        simp [hk, hx]
    · rw [if_neg h]
      simp only [getKV]
      by_cases hx : x.1 = k
      · rw [if_pos hx, if_pos hx, if_neg (fun e => h (hx.trans e))]
      · rw [if_neg hx, if_neg hx, ih]
theorem length_there (first : List Id) (puts : List (Id × Id)) : (thereOf first puts).length = first.length + puts.length := by simp [thereOf]
theorem there_put (first : List Id) (puts : List (Id × Id)) (b z : Id) (h : has first puts z = false) : putKV z (.bool true) (thereOf first puts) = thereOf first (puts ++ [(b, z)]) := by
  rw [putKV_new]
  · unfold thereOf; simp
  · have := getKV_there first puts z
    rw [h] at this
    simpa using this

/-- How many a map keyed by ids has. -/
theorem MapIs.len {w : World} {s : Nat} {l : List (Id × Value)} (h : MapIs w s l) {T E : TypeId} (hT : Try.prog.underlying T = some (.map 24 E)) (ty : TypeId) : (Builtin.len_ #[T] ty #[.map (some s)]).run Try.prog w = .ok (.int .i64 (l.length : Int)) w := by
  obtain ⟨es, c, h1, h2, _⟩ := h
  have hn : es.size = l.length := by
    have := congrArg List.length h2
    simpa using this
  have hg : (getObj s).run Try.prog w = .ok (.map es c) w := by simp [getObj, Sem.run, h1]
  simp [Builtin.len_, run_underlying hT, hg, goInt, hn]

set_option maxRecDepth 100000 in
set_option maxHeartbeats 1000000 in
theorem sins_full (w : World) (own : Tags) (t p : Nat) (first : List Id) (puts cuts : List (Id × Id)) (b1 b2 x y : Int) (h : ShAt w own t p first puts cuts) (hz : (x, y) ≠ (0, 0)) (hx : has first puts (x, y) = false) (hb : (b1, b2) = (0, 0) ∨ ((b1, b2) ≠ (0, 0) ∧ has first puts (b1, b2) = true)) (hl : 1000 ≤ first.length + puts.length) :
    Calls Try.prog 30 #[.pointer (some ⟨p, 0, none⟩), .agg #[.int .i64 b1, .int .i64 b2], .agg #[.int .i64 x, .int .i64 y]] w (SAP w own t p first puts cuts (.int .i64 5)) := by
  have hq : ideq x y 0 0 = false := ideq_false.2 (fun ⟨a, b⟩ => hz (by rw [a, b]))
  have hsp := Lib.hid (fun o o' => shas_c ((w.alloc o).alloc o') own t p first puts cuts x y (h.keep (same2 o o')))
  rw [hx] at hsp
  have H := Lib.hid h
  clear h hx hz
  go_enter Try.func30, Try.ntmps30
  go_wp2_with fail
  refine (hsp.out _ _).mono ?_
  rintro e w1 ⟨rfl, hB⟩
  have H1 := Lib.hid ((H.out.keep (same2 _ _)).next hB)
  have T1 := Lib.hid ((((Tr.refl own t w).alloc _).alloc _).below hB)
  have e0 := (hB.cell (p := ⟨w.heap.size, 0, none⟩) (by simp; omega)).trans (by simp : _ = some (.int .i64 b1))
  have e1 := (hB.cell (p := ⟨w.heap.size, 1, none⟩) (by simp; omega)).trans (by simp : _ = some (.int .i64 b2))
  clear hB
  have hbig : (1000 : Int) ≤ ((first.length + puts.length : Nat) : Int) := by omega
  rcases hb with hb | ⟨hb, hbx⟩
  · have hq2 : ideq b1 b2 0 0 = true := ideq_true.2 ⟨congrArg Prod.fst hb, congrArg Prod.snd hb⟩
    obtain ⟨_, _, vF, s, hh, vD, b, hll, a⟩ := H1.out
    have c1 := a.blk.cell 1
    simp at c1
    have hln := a.mS.len Try.underlying95 3
    rw [length_there] at hln
    clear a hb
    go_wp2_with fail
    go_ret
    exact ⟨rfl, own, T1.out, H1.out⟩
  · have hq2 : ideq b1 b2 0 0 = false := ideq_false.2 (fun ⟨a, b⟩ => hb (by rw [a, b]))
    have hsq := Lib.hid (shas_c w1 own t p first puts cuts b1 b2 H1.out)
    rw [hbx] at hsq
    clear hb hbx
    go_wp2_with fail
    refine hsq.out.mono ?_
    rintro e w2 ⟨rfl, hB2⟩
    have H2 := Lib.hid (H1.out.next hB2)
    have T2 := Lib.hid (T1.out.below hB2)
    obtain ⟨_, _, vF, s, hh, vD, b, hll, a⟩ := H2.out
    have c1 := a.blk.cell 1
    simp at c1
    have hln := a.mS.len Try.underlying95 3
    rw [length_there] at hln
    clear a hB2
    go_wp2_with fail
    go_ret
    exact ⟨rfl, own, T2.out, H2.out⟩
end Go.Proofs.Ytgmlhpkhecbkoaa
