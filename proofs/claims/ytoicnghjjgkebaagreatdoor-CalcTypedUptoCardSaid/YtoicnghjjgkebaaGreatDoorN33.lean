/-
  Opening of the argument: a plan, its things typed, their trees. Condition: the reading is of bulk at most 1048576.
-/
import Derived.Test.YtoicnghjjgkebaaGreatDoorN32
import Derived.Test.YtoicnghjjgkebaaGreatDoorRows
import Derived.ProofKit
import Derived.Lib.SmallJoins
import Derived.Deep.Slices
import Derived.Deep.Fields
import Derived.Deep.Strs
set_option linter.unusedSectionVars false
set_option linter.unusedSimpArgs false
set_option linter.unusedVariables false
set_option linter.unnecessarySimpa false
namespace Go.Proofs.YtoicnghjjgkebaaGreatDoor
open Go.RowKit Go.ChangeShapes Go.WideShapes Go.ChangeAt Go.Joins Go.Deep
theorem one_le {H : Type} (d : DataW H) : 1 ≤ Rows.uptoBulk d := by
  cases d with
  | lit l => cases l <;> simp [Rows.uptoBulk]
  | nil => simp [Rows.uptoBulk]
  | ptr d => simp [Rows.uptoBulk]
  | slice elems spare => simp [Rows.uptoBulk]
  | agg parts => simp [Rows.uptoBulk]
  | iface t d => simp [Rows.uptoBulk]
  | map entries => simp [Rows.uptoBulk]
  | held h => simp [Rows.uptoBulk]
theorem part_le {H : Type} {d : DataW H} {l : List (DataW H)} (h : d ∈ l) : Rows.uptoBulk d ≤ Rows.uptoBulkAll l := by
  induction l with
  | nil => cases h
  | cons x r ih =>
    simp only [Rows.uptoBulkAll]
    rcases List.mem_cons.1 h with e | e
    · subst e; omega
    · have := ih e; omega
theorem length_bulk {H : Type} (l : List (DataW H)) : l.length ≤ Rows.uptoBulkAll l := by
  induction l with
  | nil => simp [Rows.uptoBulkAll]
  | cons x r ih => have := one_le x; simp only [Rows.uptoBulkAll, List.length_cons]; omega
theorem Tryz.cells3 : Tryz.prog.cellsOf 3 = 1 := by kernel_rfl
theorem Tryz.cells4 : Tryz.prog.cellsOf 4 = 1 := by kernel_rfl
theorem Tryz.cells5 : Tryz.prog.cellsOf 5 = 1 := by kernel_rfl
theorem Tryz.cells9 : Tryz.prog.cellsOf 9 = 1 := by kernel_rfl
theorem Tryz.cells38 : Tryz.prog.cellsOf 38 = 1 := by kernel_rfl
theorem Tryz.cells22 : Tryz.prog.cellsOf 22 = 1 := by kernel_rfl
theorem Tryz.cells27 : Tryz.prog.cellsOf 27 = 2 := by kernel_rfl
theorem Tryz.cells35 : Tryz.prog.cellsOf 35 = 6 := by kernel_rfl
theorem Tryz.cells37 : Tryz.prog.cellsOf 37 = 12 := by kernel_rfl
theorem Tryz.cells29 : Tryz.prog.cellsOf 29 = 4 := by kernel_rfl
theorem Tryz.cells31 : Tryz.prog.cellsOf 31 = 2 := by kernel_rfl
theorem Tryz.cells33 : Tryz.prog.cellsOf 33 = 6 := by kernel_rfl
theorem Tryz.cells40 : Tryz.prog.cellsOf 40 = 22 := by kernel_rfl
theorem Tryz.cells42 : Tryz.prog.cellsOf 42 = 29 := by kernel_rfl
theorem Tryz.cells44 : Tryz.prog.cellsOf 44 = 33 := by kernel_rfl
theorem Tryz.cells24 : Tryz.prog.cellsOf 24 = 3 := by kernel_rfl
theorem fits_of_wf {n : Int} (h : (Lit.int .i64 n).wf = true) : -9223372036854775808 ≤ n ∧ n ≤ 9223372036854775807 := by
  have h1 : IntKind.i64.min = -9223372036854775808 := rfl
  have h2 : IntKind.i64.max = 9223372036854775807 := rfl
  simp only [Lit.wf, Bool.and_eq_true, decide_eq_true_eq] at h
  omega
theorem byte_of_wf {n : Int} (h : (Lit.int .u8 n).wf = true) : ∃ a : Nat, n = (a : Int) ∧ a < 256 := by
  have h1 : IntKind.u8.min = 0 := rfl
  have h2 : IntKind.u8.max = 255 := rfl
  simp only [Lit.wf, Bool.and_eq_true, decide_eq_true_eq] at h
  exact ⟨n.toNat, by omega, by omega⟩
theorem two_of {l : List Value} (h : l.length = 2) : ∃ a b, l = [a, b] := by
  match l, h with
  | [a, b], _ => exact ⟨a, b, rfl⟩
theorem three_of {l : List Value} (h : l.length = 3) : ∃ a b c, l = [a, b, c] := by
  match l, h with
  | [a, b, c], _ => exact ⟨a, b, c, rfl⟩
theorem four_of {l : List Value} (h : l.length = 4) : ∃ a b c d, l = [a, b, c, d] := by
  match l, h with
  | [a, b, c, d], _ => exact ⟨a, b, c, d, rfl⟩
theorem six_of {l : List Value} (h : l.length = 6) : ∃ a b c d e f, l = [a, b, c, d, e, f] := by
  match l, h with
  | [a, b, c, d, e, f], _ => exact ⟨a, b, c, d, e, f, rfl⟩
theorem tw_of {l : List Value} (h : l.length = 22) : ∃ c0 c1 c2 c3 c4 c5 c6 c7 c8 c9 c10 c11 c12 c13 c14 c15 c16 c17 c18 c19 c20 c21, l = [c0, c1, c2, c3, c4, c5, c6, c7, c8, c9, c10, c11, c12, c13, c14, c15, c16, c17, c18, c19, c20, c21] := by
  match l, h with
  | [c0, c1, c2, c3, c4, c5, c6, c7, c8, c9, c10, c11, c12, c13, c14, c15, c16, c17, c18, c19, c20, c21], _ => exact ⟨c0, c1, c2, c3, c4, c5, c6, c7, c8, c9, c10, c11, c12, c13, c14, c15, c16, c17, c18, c19, c20, c21, rfl⟩
theorem cut3 (l : List Value) (a b c : Nat) (h : l.length = a + b + c) : l = (l.drop 0).take a ++ ((l.drop a).take b ++ (l.drop (a + b)).take c) := by
  have h1 : (l.drop (a + b)).take c = (l.drop a).drop b := by rw [List.drop_drop]; exact List.take_of_length_le (by rw [List.length_drop]; omega)
  rw [h1, List.drop_zero, List.take_append_drop, List.take_append_drop]
theorem add_off {a : Addr} {n : Nat} : a.spot = none → a.add n = ⟨a.block, a.off + n, none⟩ := by
  intro h
  obtain ⟨b, o, s⟩ := a
  simp only at h
  subst h
  unfold Addr.add; split <;> simp_all
theorem spot_none {w : World} {a : Addr} {v : Value} (h : w.cell? a = some v) : a.spot = none := by
  unfold World.cell? at h
  split at h
  · split at h
    · cases h
    · rename_i hs; simpa using hs
  · cases h
/-- A list of cells in two. -/
theorem cut_of (l : List Value) (n m : Nat) (h : l.length = n + m) : l = (l.drop 0).take n ++ (l.drop n).take m := by
  rw [List.drop_zero]
  have : (l.drop n).take m = l.drop n := List.take_of_length_le (by rw [List.length_drop]; omega)
  rw [this, List.take_append_drop]
section
variable {H : Type} {enc : TypeId × Value → H} {w : World}
noncomputable abbrev Rd (enc : TypeId × Value → H) (w : World) (held : Bool) (fuel : Nat) (T : TypeId) (cs : List Value) : Option (DataW H × List MemPlace) := DataW.trod enc Tryz.prog w 0 (fun _ => true) held fuel T cs
variable {held : Bool}
theorem trod_num {fuel : Nat} {cs : List Value} {x : DataW H × List MemPlace} (h : Rd enc w held fuel 31 cs = some x) : ∃ a b : Int, cs = [.int .i64 a, .int .i64 b] ∧ (-9223372036854775808 ≤ a ∧ a ≤ 9223372036854775807) ∧ (-9223372036854775808 ≤ b ∧ b ≤ 9223372036854775807) := by
  obtain ⟨y0, y1, n, _, hl, h0, h1⟩ := trod_struct2 Tryz.underlying31 h
  rw [Tryz.cells31] at hl
  obtain ⟨c0, c1, rfl⟩ := two_of hl
  simp only [Tryz.cells3, List.drop_zero, List.take_succ_cons, List.take_zero, List.drop_succ_cons] at h0 h1
  obtain ⟨a, e0, _, wa⟩ := DataW.trod_int Tryz.underlying3 h0
  obtain ⟨b, e1, _, wb⟩ := DataW.trod_int Tryz.underlying3 h1
  cases e0
  cases e1
  exact ⟨a, b, rfl, fits_of_wf wa, fits_of_wf wb⟩
theorem trod_id {fuel : Nat} {cs : List Value} {x : DataW H × List MemPlace} (h : Rd enc w held fuel 27 cs = some x) : ∃ a b : Int, cs = [.int .i64 a, .int .i64 b] := by
  obtain ⟨y0, y1, n, _, hl, h0, h1⟩ := trod_struct2 Tryz.underlying27 h
  rw [Tryz.cells27] at hl
  obtain ⟨c0, c1, rfl⟩ := two_of hl
  simp only [Tryz.cells3, List.drop_zero, List.take_succ_cons, List.take_zero, List.drop_succ_cons] at h0 h1
  obtain ⟨a, e0, _, wa⟩ := DataW.trod_int Tryz.underlying3 h0
  obtain ⟨b, e1, _, wb⟩ := DataW.trod_int Tryz.underlying3 h1
  cases e0
  cases e1
  exact ⟨a, b, rfl⟩
set_option maxRecDepth 100000 in
theorem trod_cel {fuel : Nat} {cs : List Value} {x : DataW H × List MemPlace} (h : Rd enc w held fuel 29 cs = some x) : ∃ z : Cel, cs = z.cs := by
  obtain ⟨y0, y1, n, _, hl, h0, h1⟩ := trod_struct2 Tryz.underlying29 h
  rw [Tryz.cells29] at hl
  obtain ⟨c0, c1, c2, c3, rfl⟩ := four_of hl
  simp only [Tryz.cells27, List.drop_zero, List.take_succ_cons, List.take_zero, List.drop_succ_cons] at h0 h1
  obtain ⟨a, b, e0⟩ := trod_id h0
  obtain ⟨c, d, e1⟩ := trod_id h1
  cases e0
  cases e1
  exact ⟨((a, b), (c, d)), rfl⟩
def Cor.cs (x : Cor) : List Value := [.int .i64 x.row.1, .int .i64 x.row.2, .int .i64 x.col.1, .int .i64 x.col.2, .bool x.fr, .bool x.fc]
set_option maxRecDepth 100000 in
theorem trod_corner {fuel : Nat} {cs : List Value} {x : DataW H × List MemPlace} (h : Rd enc w held fuel 35 cs = some x) : ∃ z : Cor, cs = z.cs := by
  obtain ⟨xs, n, _, _, hl, hlen, hf⟩ := DataW.trod_struct Tryz.underlying35 h
  rw [Tryz.cells35] at hl
  obtain ⟨c0, c1, c2, c3, c4, c5, rfl⟩ := six_of hl
  match xs, hlen with
  | [y0, y1, y2, y3], _ =>
    have h0 := hf 0 _ rfl
    have h1 := hf 1 _ rfl
    have h2 := hf 2 _ rfl
    have h3 := hf 3 _ rfl
    simp only [Tryz.cells4, Tryz.cells27, List.drop_zero, List.take_succ_cons, List.take_zero, List.drop_succ_cons, List.getElem?_cons_zero, List.getElem?_cons_succ] at h0 h1 h2 h3
    obtain ⟨a, b, e0⟩ := trod_id h0
    obtain ⟨c, d, e1⟩ := trod_id h1
    obtain ⟨p, e2, _⟩ := DataW.trod_bool Tryz.underlying4 h2
    obtain ⟨q, e3, _⟩ := DataW.trod_bool Tryz.underlying4 h3
    cases e0
    cases e1
    cases e2
    cases e3
    exact ⟨⟨(a, b), (c, d), p, q⟩, rfl⟩
set_option maxRecDepth 100000 in
theorem trod_val {fuel : Nat} {cs : List Value} {x : DataW H × List MemPlace} (h : Rd enc w held fuel 33 cs = some x) : ∃ z : Val, cs = z.cs ∧ (-9223372036854775808 ≤ z.mant ∧ z.mant ≤ 9223372036854775807) ∧ (-9223372036854775808 ≤ z.exp ∧ z.exp ≤ 9223372036854775807) := by
  obtain ⟨xs, n, _, _, hl, hlen, hf⟩ := DataW.trod_struct Tryz.underlying33 h
  rw [Tryz.cells33] at hl
  obtain ⟨c0, c1, c2, c3, c4, c5, rfl⟩ := six_of hl
  match xs, hlen with
  | [y0, y1, y2, y3, y4], _ =>
    have h0 := hf 0 _ rfl
    have h1 := hf 1 _ rfl
    have h2 := hf 2 _ rfl
    have h3 := hf 3 _ rfl
    have h4 := hf 4 _ rfl
    simp only [Tryz.cells3, Tryz.cells4, Tryz.cells9, Tryz.cells31, List.drop_zero, List.take_succ_cons, List.take_zero, List.drop_succ_cons, List.getElem?_cons_zero, List.getElem?_cons_succ] at h0 h1 h2 h3 h4
    obtain ⟨k, e0, _, _⟩ := DataW.trod_int Tryz.underlying3 h0
    obtain ⟨m, ex, e1, fm, fe⟩ := trod_num h1
    obtain ⟨t, e2, _, _⟩ := DataW.trod_string Tryz.underlying9 h2
    obtain ⟨b, e3, _⟩ := DataW.trod_bool Tryz.underlying4 h3
    obtain ⟨f, e4, _, _⟩ := DataW.trod_int Tryz.underlying3 h4
    cases e0
    cases e1
    cases e2
    cases e3
    cases e4
    exact ⟨⟨k, m, ex, t, b, f⟩, rfl, fm, fe⟩
/-- A slice among cells: what each place reads, and holds. -/
theorem cells_many {α : Type} [Inhabited α] {f : α → List Value} {k : Nat} {T E : TypeId} (hT : Tryz.prog.underlying T = some (.slice E)) (hE : Tryz.prog.cellsOf E = k) (hk : 0 < k) {Good : α → DataW H → Prop} (hf0 : ∀ z, (f z).length = k)
    {fuel : Nat} {cs : List Value} {x : DataW H × List MemPlace} (h : Rd enc w held fuel T cs = some x)
    (hf : ∀ (fuel : Nat) (cs : List Value) (y : DataW H × List MemPlace), Rd enc w held fuel E cs = some y → Rows.uptoBulk y.1 < Rows.uptoBulk x.1 → ∃ z, cs = f z ∧ Good z y.1) :
    ∃ A n c l D, cs = [.slice A n (n + c)] ∧ l.length = n ∧ n ≤ maxLen ∧ ManyR f k w A l ∧ (∀ i (hi : i < l.length), Good l[i] (D i)) ∧ Rows.uptoBulkAll ((List.range n).map D) < Rows.uptoBulk x.1 := by
  rcases open_slice hT h with ⟨rfl, rfl⟩ | ⟨a, n, c, m, kk, D, Pl, rfl, hb, hl, hm, hmm, hx, hi⟩
  · exact ⟨none, 0, 0, [], fun _ => .nil, rfl, rfl, Nat.zero_le _, fun e => absurd rfl e, fun i hi => absurd hi (by simp), by simp [Rows.uptoBulkAll, Rows.uptoBulk]⟩
  · simp only [if_true] at hmm
    have hbulk : Rows.uptoBulkAll ((List.range n).map D) < Rows.uptoBulk x.1 := by
      rw [hx]
      simp only [Rows.uptoBulk]
      omega
    have key : ∀ i, i < n → ∃ z : α, (∀ j v, (f z)[j]? = some v → w.cell? ((a.add (i * k)).add j) = some v) ∧ Good z (D i) := by
      intro i hin
      obtain ⟨cs', hc, ht⟩ := hi i (by omega)
      rw [hE] at hc
      obtain ⟨_, hlen, hat⟩ := World.cells?_some hc
      obtain ⟨z, rfl, gz⟩ := hf _ _ _ ht (Nat.lt_of_le_of_lt (part_le (List.mem_map.2 ⟨i, List.mem_range.2 hin, rfl⟩)) hbulk)
      refine ⟨z, fun j v hj => ?_, gz⟩
      obtain ⟨hj1, hj2⟩ := List.getElem?_eq_some_iff.1 hj
      have := hat j (by rw [hf0] at hj1; exact hj1)
      rw [this]
      simp [hj]
    obtain ⟨g, hg⟩ : ∃ g : Nat → α, ∀ i, i < n → (∀ j v, (f (g i))[j]? = some v → w.cell? ((a.add (i * k)).add j) = some v) ∧ Good (g i) (D i) :=
      ⟨fun i => if h : i < n then (key i h).choose else default, fun i h => by simp only [dif_pos h]; exact (key i h).choose_spec⟩
    refine ⟨some a, n, c - n, (List.range n).map g, D, by rw [Nat.add_sub_cancel' hl], by simp, Nat.le_trans hl hm, fun hne => ?_, ?_, hbulk⟩
    · have hn0 : 0 < n := by
        rcases Nat.eq_zero_or_pos n with h0 | h0
        · subst h0; exact absurd rfl hne
        · exact h0
      have hk0 : 0 < (f (g 0)).length := by rw [hf0]; exact hk
      have h0 := (hg 0 hn0).1 0 (f (g 0))[0] (List.getElem?_eq_getElem hk0)
      simp only [Nat.zero_mul, Addr.add, if_true] at h0
      have hsp : a.spot = none := spot_none h0
      refine ⟨a.block, a.off, ?_, World.block_lt_of_cell? w _ h0, fun i hi' j v hj => ?_⟩
      · obtain ⟨b, o, s⟩ := a; simp only at hsp; rw [hsp]
      · have hin : i < n := by simpa using hi'
        simp only [List.getElem_map, List.getElem_range] at hj
        have := (hg i hin).1 j v hj
        rw [add_off hsp, add_off rfl] at this
        exact this
    · intro i hi'
      simp only [List.getElem_map, List.getElem_range]
      exact (hg i (by simpa using hi')).2
/-- A node among cells. -/
structure NdR where
  f : Nf
  A : Option Addr
  l : List Nd
  c : Nat
instance : Inhabited NdR := ⟨⟨.zero, none, [], 0⟩⟩
def NdR.cs (u : NdR) : List Value := u.f.cs (.slice u.A u.l.length (u.l.length + u.c))
def NdR.nd (u : NdR) : Nd := .mk u.f u.l
theorem sizeL_le : ∀ (l : List NdR) (D : Nat → DataW H) (o : Nat), (∀ i (hi : i < l.length), l[i].nd.size ≤ Rows.uptoBulk (D (o + i))) → sizeL (l.map NdR.nd) ≤ Rows.uptoBulkAll ((List.range l.length).map fun i => D (o + i))
  | [], _, _, _ => by simp [sizeL]
  | u :: l, D, o, h => by
    have ih := sizeL_le l D (o + 1) (fun i hi => by
      have := h (i + 1) (by simpa using hi)
      simpa [Nat.add_assoc, Nat.add_comm 1 i] using this)
    have h0 := h 0 (by simp)
    simp only [List.getElem_cons_zero, Nat.add_zero] at h0
    rw [List.map_cons, sizeL, List.length_cons, List.range_succ_eq_map, List.map_cons, List.map_map, Rows.uptoBulkAll]
    have e : ((fun i => D (o + i)) ∘ Nat.succ) = fun i => D (o + 1 + i) := by
      funext i
      show D (o + (i + 1)) = D (o + 1 + i)
      congr 1
      omega
    rw [e, Nat.add_zero]
    omega
set_option maxRecDepth 100000 in
theorem trod_node : ∀ (N : Nat) {fuel : Nat} {cs : List Value} {x : DataW H × List MemPlace}, Rd enc w held fuel 40 cs = some x → Rows.uptoBulk x.1 ≤ N → ∃ u : NdR, cs = u.cs ∧ KidsT w N u.A u.l ∧ u.nd.size ≤ Rows.uptoBulk x.1 ∧ u.l.length ≤ maxLen
  | 0, _, _, x, _, hN => absurd (one_le x.1) (by omega)
  | N + 1, fuel, cs, x, h, hN => by
    obtain ⟨xs, n, _, hx, hl, hlen, hf⟩ := DataW.trod_struct Tryz.underlying40 h
    rw [Tryz.cells40] at hl
    obtain ⟨c0, c1, c2, c3, c4, c5, c6, c7, c8, c9, c10, c11, c12, c13, c14, c15, c16, c17, c18, c19, c20, c21, rfl⟩ := tw_of hl
    match xs, hlen with
    | [y0, y1, y2, y3, y4, y5], _ =>
      have h0 := hf 0 _ rfl
      have h1 := hf 1 _ rfl
      have h2 := hf 2 _ rfl
      have h3 := hf 3 _ rfl
      have h4 := hf 4 _ rfl
      have h5 := hf 5 _ rfl
      simp only [Tryz.cells3, Tryz.cells9, Tryz.cells33, Tryz.cells37, Tryz.cells38, List.drop_zero, List.take_succ_cons, List.take_zero, List.drop_succ_cons, List.getElem?_cons_zero, List.getElem?_cons_succ] at h0 h1 h2 h3 h4 h5
      obtain ⟨k, e0, _, _⟩ := DataW.trod_int Tryz.underlying3 h0
      obtain ⟨v, e1, -, -⟩ := trod_val h1
      obtain ⟨t, e2, _, _⟩ := DataW.trod_string Tryz.underlying9 h2
      obtain ⟨z0, z1, n2, _, hl3, g0, g1⟩ := trod_struct2 Tryz.underlying37 h3
      simp only [Tryz.cells35, List.drop_zero, List.take_succ_cons, List.take_zero, List.drop_succ_cons] at g0 g1
      obtain ⟨ca, f0⟩ := trod_corner g0
      obtain ⟨cb, f1⟩ := trod_corner g1
      obtain ⟨r, e4, _, _⟩ := DataW.trod_int Tryz.underlying3 h4
      have hb5 : Rows.uptoBulk y5.1 < Rows.uptoBulk x.1 := by
        rw [hx]
        simp only [List.map_cons, List.map_nil, Rows.uptoBulk, Rows.uptoBulkAll]
        have := one_le y0.1
        omega
      obtain ⟨A, m, c, l, D, e5, hlm, hmm, hR, hg, hbk⟩ := cells_many (f := NdR.cs) (Good := fun u d => KidsT w N u.A u.l ∧ u.nd.size ≤ Rows.uptoBulk d ∧ u.l.length ≤ maxLen) Tryz.underlying38 Tryz.cells40 (by decide) (fun _ => rfl) h5
        (fun fuel cs y hy hlt => trod_node N hy (by omega))
      cases e0
      cases e1
      cases e2
      cases f0
      cases f1
      cases e4
      cases e5
      refine ⟨⟨⟨k, v, t, ca, cb, r⟩, A, l.map NdR.nd, c⟩, by rw [← hlm]; simp only [NdR.cs, List.length_map]; rfl, ?_, ?_, by rw [List.length_map, hlm]; exact hmm⟩
      · intro hne
        have hl0 : l ≠ [] := fun e => hne (by rw [e]; rfl)
        obtain ⟨b, off, hA, hlt, hc⟩ := hR hl0
        refine ⟨b, off, hA, trivial, hlt, by rw [List.length_map, hlm]; exact hmm, fun i hi => ?_⟩
        have hi2 : i < l.length := by simpa using hi
        refine ⟨l[i].A, l[i].c, fun j v hj => hc i hi2 j v ?_, ?_⟩
        · simpa [NdR.cs, NdR.nd, Nd.f, Nd.l] using hj
        · simpa [NdR.nd, Nd.l] using (hg i hi2).1
      · have hs : sizeL (l.map NdR.nd) ≤ Rows.uptoBulkAll ((List.range m).map D) := by
          have h := sizeL_le l D 0 (fun i hi => by rw [Nat.zero_add]; exact (hg i hi).2.1)
          rw [hlm] at h
          simpa using h
        have hz : (NdR.nd ⟨⟨k, v, t, ca, cb, r⟩, A, l.map NdR.nd, c⟩).size = 1 + sizeL (l.map NdR.nd) := by simp [NdR.nd, Nd.size]
        rw [hz]
        omega
instance : Inhabited CV := ⟨⟨((0, 0), (0, 0)), 0, zeroV, .zero, none, [], 0⟩⟩
set_option maxRecDepth 100000 in
theorem trod_content {fuel : Nat} {cs : List Value} {x : DataW H × List MemPlace} (h : Rd enc w held fuel 42 cs = some x) (hN : Rows.uptoBulk x.1 ≤ 1048576) : ∃ (k : Int) (v : Val) (u : NdR), cs = ccs k v u.cs ∧ ((-9223372036854775808 ≤ v.mant ∧ v.mant ≤ 9223372036854775807) ∧ (-9223372036854775808 ≤ v.exp ∧ v.exp ≤ 9223372036854775807)) ∧ KidsT w 1048576 u.A u.l ∧ u.nd.size ≤ 1048576 ∧ u.l.length ≤ maxLen := by
  obtain ⟨xs, n, _, hx, hl, hlen, hf⟩ := DataW.trod_struct Tryz.underlying42 h
  rw [Tryz.cells42] at hl
  match xs, hlen with
  | [y0, y1, y2], _ =>
    have h0 : Rd enc w held n 3 ((cs.drop 0).take (Tryz.prog.cellsOf 3)) = some y0 := hf 0 _ rfl
    have h1 : Rd enc w held n 33 ((cs.drop 1).take (Tryz.prog.cellsOf 33)) = some y1 := hf 1 _ rfl
    have h2 : Rd enc w held n 40 ((cs.drop 7).take (Tryz.prog.cellsOf 40)) = some y2 := hf 2 _ rfl
    rw [Tryz.cells3] at h0
    rw [Tryz.cells33] at h1
    rw [Tryz.cells40] at h2
    obtain ⟨k, e0, _, _⟩ := DataW.trod_int Tryz.underlying3 h0
    obtain ⟨v, e1, g1, g2⟩ := trod_val h1
    have hb : Rows.uptoBulk y2.1 ≤ 1048576 := by
      rw [hx] at hN
      simp only [List.map_cons, List.map_nil, Rows.uptoBulk, Rows.uptoBulkAll] at hN
      omega
    obtain ⟨u, e2, hk, hs, hm⟩ := trod_node 1048576 h2 hb
    refine ⟨k, v, u, ?_, ⟨g1, g2⟩, hk, Nat.le_trans hs hb, hm⟩
    have hc := cut3 cs 1 6 22 (by omega)
    rw [e0, e1, show (1 + 6 : Nat) = 7 from rfl, e2] at hc
    exact hc
set_option maxRecDepth 100000 in
theorem trod_cv {fuel : Nat} {cs : List Value} {x : DataW H × List MemPlace} (h : Rd enc w held fuel 44 cs = some x) (hN : Rows.uptoBulk x.1 ≤ 1048576) : ∃ u : CV, cs = u.cs ∧ u.Ok 1048576 w := by
  obtain ⟨y0, y1, n, hx, hl, h0, h1⟩ := trod_struct2 Tryz.underlying44 h
  rw [Tryz.cells44] at hl
  simp only [Tryz.cells29, Tryz.cells42] at h0 h1
  obtain ⟨z, e0⟩ := trod_cel h0
  have hb : Rows.uptoBulk y1.1 ≤ 1048576 := by
    rw [hx] at hN
    simp only [Rows.uptoBulk, Rows.uptoBulkAll] at hN
    omega
  obtain ⟨k, v, u, e1, ⟨g1, g2⟩, hk, hs, hm⟩ := trod_content h1 hb
  refine ⟨⟨z, k, v, u.f, u.A, u.l, u.c⟩, ?_, hk, hs, ⟨g1.1, g1.2, g2.1, g2.2⟩, hm⟩
  rw [cut_of cs 4 29 (by omega), e0, e1]
  rfl
set_option maxRecDepth 100000 in
theorem open_plan {r : Go.Reach} {b0 : Nat} {v : Value} {dd : DataW H} {p : List MemPlace} (hv : Value.okWide Tryz.prog w r b0 24 v) (h : DataW.Trod enc Tryz.prog w 0 (fun _ => true) held 24 v dd p) (hN : Rows.uptoBulk dd ≤ 1048576) :
    ∃ (a b : Nat) (A : Option Addr) (us : List CV) (c : Nat), v = .agg #[.int .u8 a, .int .u8 b, .slice A us.length c] ∧ (a < 256 ∧ b < 256) ∧ ManyR CV.cs 33 w A us ∧ (∀ u ∈ us, u.Ok 1048576 w) ∧ us.length ≤ 1048576 := by
  obtain ⟨cs, rfl, hsz⟩ := okWide_struct Tryz.underlying24 hv
  obtain ⟨fuel, hf0⟩ := h
  obtain ⟨xs, n, _, hx, hl, hlen, hf⟩ := DataW.trod_struct Tryz.underlying24 hf0
  rw [Tryz.cells24] at hl
  obtain ⟨c0, c1, c2, e⟩ := three_of hl
  rw [e] at hf
  match xs, hlen with
  | [y0, y1, y2], _ =>
    have h0 := hf 0 _ rfl
    have h1 := hf 1 _ rfl
    have h2 := hf 2 _ rfl
    simp only [Tryz.cells5, Tryz.cells22, List.drop_zero, List.take_succ_cons, List.take_zero, List.drop_succ_cons, List.getElem?_cons_zero, List.getElem?_cons_succ] at h0 h1 h2
    obtain ⟨a', e0, _, wa⟩ := DataW.trod_int Tryz.underlying5 h0
    obtain ⟨b', e1, _, wb⟩ := DataW.trod_int Tryz.underlying5 h1
    obtain ⟨a, rfl, ha⟩ := byte_of_wf wa
    obtain ⟨b, rfl, hb⟩ := byte_of_wf wb
    have hb2 : Rows.uptoBulk y2.1 ≤ 1048576 := by
      have hd : dd = .agg [y0.1, y1.1, y2.1] := by simpa using congrArg Prod.fst hx
      rw [hd] at hN
      simp only [Rows.uptoBulk, Rows.uptoBulkAll] at hN
      omega
    obtain ⟨A, m, c, l, D, e2, hlm, hmm, hR, hg, hbk⟩ := cells_many (f := CV.cs) (Good := fun u _ => u.Ok 1048576 w) Tryz.underlying22 Tryz.cells44 (by decide) CV.len h2 (fun fuel cs y hy hlt => trod_cv hy (by omega))
    cases e0
    cases e1
    cases e2
    refine ⟨a, b, A, l, m + c, ?_, ⟨ha, hb⟩, hR, fun u hu => ?_, ?_⟩
    · have : cs = #[.int .u8 a, .int .u8 b, .slice A m (m + c)] := by
        apply Array.ext'
        simpa [Value.cells] using e
      rw [this, hlm]
    · obtain ⟨i, hi, rfl⟩ := List.mem_iff_getElem.1 hu
      exact hg i hi
    · have h1 := length_bulk ((List.range m).map D)
      rw [List.length_map, List.length_range] at h1
      omega
end
end Go.Proofs.YtoicnghjjgkebaaGreatDoor
