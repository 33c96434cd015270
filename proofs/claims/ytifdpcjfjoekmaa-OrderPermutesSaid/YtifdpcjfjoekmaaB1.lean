/-
  counterpaneref01: digits, Of, Right; counterpaneref02.Right: their contracts. Condition: those said in each statement.
-/
import Derived.Test.YtifdpcjfjoekmaaA18
import Derived.Great.BuildSlice
namespace Go.Proofs.Ytifdpcjfjoekmaa
open Go.RowKit

theorem wpList_append_src {P : Program} (w : World) {ops : Array Oper} {rest : List Oper} {o : Oper} {a : Act} {Q : Exit → Act → World → Prop} (hgd : o.guard = none) (s x : Operand) (t : TypeId)
    (ho : o.op = .call { callee := .builtin .append, args := #[s, x], argTypes := #[t, t] })
    (base : Nat) (e : TypeId) (i : TypeInfo) (z : Value) (size bytes : Nat) (ht : P.underlying t = some (.slice e)) (hi : P.info? e = some i) (hz : i.zero = some z)
    (hsize : i.size = size) (hby : i.bytes = bytes) (hzs : z.cells.size = size) (hsz : 0 < size)
    (v : Value) (n : Nat) (xs : List Value) (hs : a.eval s = v) (hown : w.ownsRow base e size v n xs)
    (A : Option Addr) (m c : Nat) (news : List Value) (hx : a.eval x = .slice A m c) (hA : A = none → m = 0 ∧ c = 0) (hl : news.length = m * size) (hnews : ∀ ad, A = some ad → ∀ j u, news[j]? = some u → w.cell? (ad.add j) = some u) (h1 : ∀ u ∈ news, u.oneCell' = true)
    (h63 : n + m ≤ maxLen) (hbytes : (n + m) * bytes ≤ 140737488355328) (hbase : base ≤ w.heap.size)
    (h : ∀ v' w', w'.ownsRow base e size v' (n + m) (xs ++ news) → w.grownBy w' v.ownBlock → (v'.ownBlock = v.ownBlock ∨ v'.ownBlock = some w.heap.size) → wpList P ops Q rest (a.put o.dst v') w') :
    wpList P ops Q (o :: rest) a w := by
  cases A with
  | some ad => exact wpList_append_own_at w hgd s x t ho base e i z size bytes ht hi hz hsize hby hzs hsz v n xs hs hown ad m c news hx hl (hnews ad rfl) h1 h63 hbytes hbase (fun v' w' h2 h3 _ h5 => h v' w' h2 h3 h5)
  | none =>
    obtain ⟨rfl, rfl⟩ := hA rfl
    have hn0 : news = [] := by cases news with | nil => rfl | cons _ _ => simp at hl
    subst hn0
    refine wpList_plain hgd fun K hK => ?_
    have hr := run_append_owned_none (P := P) (w := w) base t o.type e i size ht hi v n xs hown
    unfold Oper.wp execOp
    simp only [ho, resolve, invoke, builtin, Sem.run_bind, Sem.run_pure, Result.andThen_ok, List.map_toArray, List.map_cons, List.map_nil, hs, hx, hr]
    exact hK _ _ (h v w (by simpa using hown) ⟨rfl, rfl, rfl, Nat.le_refl _, fun _ _ _ => rfl⟩ (.inl rfl))


theorem ownsRow_shape {w : World} {base : Nat} {e : TypeId} {size : Nat} {v : Value} {n : Nat} {xs : List Value} (h : w.ownsRow base e size v n xs) : ∃ A c, v = .slice A n c ∧ ((A = none ∧ n = 0 ∧ c = 0) ∨ ∃ g, A = some ⟨g, 0, none⟩ ∧ n ≤ c) := by
  rcases h.2 with ⟨hv, rfl⟩ | ⟨g, cap, cur, hv, _, _, h1, _⟩
  · exact ⟨none, 0, hv, .inl ⟨rfl, rfl, rfl⟩⟩
  · exact ⟨_, _, hv, .inr ⟨g, rfl, h1⟩⟩

/-- The digits, the first one first. -/
def dgN : Nat → Nat → List Nat
  | 0, _ => []
  | f + 1, n => if n = 0 then [] else dgN f (n / 10) ++ [n % 10]
def dg (n : Nat) : List Nat := dgN 20 n
theorem dgN_more : ∀ (f n : Nat), n < 10 ^ f → dgN (f + 1) n = dgN f n
  | 0, n, h => by simp [dgN]; omega
  | f + 1, n, h => by
    rw [dgN]
    conv => rhs; rw [dgN]
    split
    · rfl
    · rw [dgN_more f (n / 10) (by rw [Nat.pow_succ] at h; omega)]
theorem dg_step {n : Nat} (h : n ≠ 0) (hn : n < 10 ^ 19) : dg n = dg (n / 10) ++ [n % 10] := by
  unfold dg
  show dgN (19 + 1) n = _
  rw [dgN, if_neg h, ← dgN_more 19 (n / 10) (by omega)]
theorem dg_zero : dg 0 = [] := rfl
theorem dgN_len : ∀ (f n : Nat), 0 < n → n < 10 ^ f → (dgN f n).length = ndigN f n
  | 0, n, h0, h => by simp at h; omega
  | f + 1, n, h0, h => by
    unfold dgN ndigN
    rw [if_neg (by omega)]
    rw [List.length_append]
    split
    · rename_i h10
      have : n / 10 = 0 := by omega
      rw [this]
      cases f <;> simp [dgN]
    · rw [dgN_len f (n / 10) (by omega) (by rw [Nat.pow_succ] at h; omega)]
      rfl
theorem dg_len {n : Nat} (h0 : 0 < n) (hn : n < 10 ^ 15) : (dg n).length = ndig n := dgN_len 20 n h0 (by omega)
theorem dg_le (n : Nat) : (dg n).length ≤ 20 := by
  have : ∀ f n, (dgN f n).length ≤ f := by
    intro f
    induction f with
    | zero => intro n; simp [dgN]
    | succ f ih =>
      intro n
      unfold dgN
      split
      · simp
      · have := ih (n / 10); simp; omega
  exact this 20 n
def intsL (l : List Nat) : List Value := l.map fun (x : Nat) => Value.int .i64 (x : Int)
theorem intsL_one (l : List Nat) : ∀ u ∈ intsL l, u.oneCell' = true := by
  intro u hu
  obtain ⟨x, _, rfl⟩ := List.mem_map.1 hu
  rfl
theorem bs1_26 (w : World) (x : Int) : (Instr.buildSlice 26 1 #[(0, .int .i64 x)]).run Try.prog w = .ok (.slice (some ⟨w.heap.size, 0, none⟩) 1 1) (w.alloc (.cells #[.int .i64 x] 3)) := by
  obtain ⟨i0, hi, hi0, hi1, hi2⟩ := info_parts Try.info3
  refine run_buildSlice w 26 3 1 _ _ i0 _ Try.underlying26 hi hi0 (by rw [hi1]; omega) (by rw [hi1]; omega) ?_
  rw [hi1]
  kernel_rfl
theorem below_grew {w W W' : World} {row : Option Nat} (h : Below w.heap.size w W) (hg : W.grownBy W' row) (hr : ∀ k, row = some k → w.heap.size ≤ k) : Below w.heap.size w W' :=
  ⟨hg.os.trans h.os, hg.tape.trans h.tape, hg.output.trans h.output, Nat.le_trans h.size hg.size, fun k hk => (hg.block k (Nat.lt_of_lt_of_le hk h.size) (fun e => by have := hr k e.symm; omega)).trans (h.block k hk)⟩
def DigP (w : World) (l : List Nat) (e : Ending) (w' : World) : Prop := ∃ v, e = .returned v ∧ Below w.heap.size w w' ∧ w'.ownsRow w.heap.size 3 1 v l.length (intsL l)
theorem tmod10 (m : Int) (h : m < 0) : m.tmod 10 = -((m.natAbs % 10 : Nat) : Int) := by
  obtain ⟨k, rfl⟩ : ∃ k : Nat, m = -(k : Int) := ⟨m.natAbs, by omega⟩
  rw [Int.neg_tmod, Int.natAbs_neg]; rfl
theorem tdiv10 (m : Int) (h : m < 0) : m.tdiv 10 = -((m.natAbs / 10 : Nat) : Int) := by
  obtain ⟨k, rfl⟩ : ∃ k : Nat, m = -(k : Int) := ⟨m.natAbs, by omega⟩
  rw [Int.neg_tdiv, Int.natAbs_neg]; rfl

set_option maxRecDepth 100000 in
set_option maxHeartbeats 4000000 in
theorem digits_c (m0 : Int) (h1 : -1000000000000000 ≤ m0) (h2 : m0 ≤ 1000000000000000) (w : World) : Calls Try.prog 35 #[.int .i64 m0] w (DigP w (dg m0.natAbs)) := by
  obtain ⟨i0, hi, hz0, hz1, hz2⟩ := info_parts Try.info3
  go_enter Try.func35, Try.ntmps35
  go_wp2_with fail
  go_loopw [0, 3] (fun i v wr => ∃ (m : Int) (ds : List Nat), i = .int .i64 m ∧ -1000000000000000 ≤ m ∧ m ≤ 1000000000000000 ∧ Hid (dg m0.natAbs = dg m.natAbs ++ ds) ∧ Hid (Below w.heap.size w wr ∧ wr.ownsRow w.heap.size 3 1 v ds.length (intsL ds))) (fun i _ _ => (intOf i).natAbs)
  case atStart => exact ⟨m0, [], rfl, h1, h2, by show _ = _; simp, ⟨Below.refl _ _, World.ownsRow_nil _ _ _ _⟩⟩
  case round =>
    obtain ⟨m, ds, rfl, l1, l2, hd, hw⟩ := hrel
    by_cases hm : m = 0
    · subst hm
      have hd' := hd.out
      rw [Int.natAbs_zero, dg_zero, List.nil_append] at hd'
      have HD := Lib.hid hd'
      clear hd'
      go_wp2_with fail
      go_ret
      exact ⟨_, rfl, hw.out.1, by rw [HD.out]; exact hw.out.2⟩
    · have hmb : (m != 0) = true := by rw [bne_iff_ne]; exact hm
      have hst := Lib.hid (dg_step (n := m.natAbs) (by omega) (by omega))
      obtain ⟨A, c, rfl, hAc⟩ := ownsRow_shape hw.out.2
      have hdl : ds.length ≤ 20 := by have := hd.out; have l := dg_le m0.natAbs; rw [this, List.length_append] at l; omega
      have hrow := Lib.hid hw.out.2
      have hbl := Lib.hid hw.out.1
      clear hw
      obtain ⟨D, hD⟩ : ∃ D, m.natAbs % 10 = D := ⟨_, rfl⟩
      have hD9 : D ≤ 9 := by omega
      have HD := Lib.hid hD
      obtain ⟨Qn, hQ⟩ : ∃ Q, m.natAbs / 10 = Q := ⟨_, rfl⟩
      have HQ := Lib.hid hQ
      have hbs := bs1_26 wr D
      have HNX : Hid (∀ q : Int, q.natAbs = Qn → dg m0.natAbs = dg q.natAbs ++ (D :: ds)) := fun q hq => by
        rw [hd.out, hst.out, hq, HQ.out, HD.out, List.append_assoc]; rfl
      have hA : A = none → ds.length = 0 ∧ c = 0 := fun e => by rcases hAc with ⟨_, h3, h4⟩ | ⟨g, h3, _⟩; exact ⟨h3, h4⟩; rw [h3] at e; cases e
      have HA := Lib.hid hA
      have bl : Below wr.heap.size wr (wr.alloc (.cells #[.int .i64 (D : Int)] 3)) := (Below.refl _ wr).alloc (Nat.le_refl _) _
      have HBL := Lib.hid bl
      have hsrc : Hid (∀ ad, A = some ad → ∀ j u, (intsL ds)[j]? = some u → (wr.alloc (.cells #[.int .i64 (D : Int)] 3)).cell? (ad.add j) = some u) := fun ad hE j u hj => by
        rcases hAc with ⟨h3, _⟩ | ⟨g, h3, _⟩
        · rw [h3] at hE; cases hE
        · rw [h3] at hE; cases hE
          have hc := hrow.out.cells (g := g) (by rw [h3]; rfl) j u hj
          have hlt := World.block_lt_of_cell? wr _ hc
          rw [World.cell?_alloc_lt _ _ _ hlt]
          exact hc
      have hself : Hid ((wr.alloc (.cells #[.int .i64 (D : Int)] 3)).ownsRow w.heap.size 3 1 (.slice (some ⟨wr.heap.size, 0, none⟩) 1 1) 1 [.int .i64 (D : Int)]) :=
        ⟨rfl, .inr ⟨wr.heap.size, 1, #[.int .i64 (D : Int)], rfl, hbl.out.size, heap_alloc_new wr _, Nat.le_refl _, by decide, rfl, rfl⟩⟩
      clear hd hst hrow hA hAc bl hD hQ
      by_cases hpos : 0 ≤ m
      · have r1 : m % 10 = (D : Int) := by have := HD.out; omega
        have r2 : m / 10 = (Qn : Int) := by have := HQ.out; omega
        have r3 : ¬ (D : Int) < 0 := by omega
        go_wp2_with (at_builtin; refine wpList_append_src _ rfl _ _ _ rfl w.heap.size 3 i0 _ 1 8 Try.underlying26 hi hz0 hz1 hz2 rfl (by omega) _ 1 [.int .i64 (D : Int)] rfl hself.out A ds.length c (intsL ds) rfl HA.out (by simp [intsL]) hsrc.out (intsL_one ds) (by simp only [maxLen]; omega) (by omega) (by have := hbl.out.size; simp; omega) ?_; intro v2 w2 hr2 hg2 hat2)
        have HR2 := Lib.hid (show w2.ownsRow w.heap.size 3 1 v2 (D :: ds).length (intsL (D :: ds)) by rw [Nat.add_comm] at hr2; exact hr2)
        have HB2 := Lib.hid (below_grew (hbl.out.trans (HBL.out.mono hbl.out.size)) hg2 (fun k hk => by cases hk; exact hbl.out.size))
        clear hr2 hg2 hat2
        go_wp2_with fail
        go_roundw
        case rel => exact ⟨(Qn : Int), D :: ds, by rw [r2], by omega, by omega, HNX.out _ (by simp), ⟨HB2.out, HR2.out⟩⟩
        case measure => simp [intOf]; omega
      · have hneg : m < 0 := by omega
        have hq0 : Qn ≤ 1000000000000000 := by have := HQ.out; omega
        have r1 : m.tmod 10 = -(D : Int) := by rw [tmod10 m hneg, HD.out]
        have r2 : IntKind.i64.wrap (m.tdiv 10) = -(Qn : Int) := by rw [tdiv10 m hneg, HQ.out]; exact IntWalk.i64_in _ (by omega)
        rcases Nat.eq_zero_or_pos D with h0 | h0
        · have r4 : m.tmod 10 = (D : Int) := by rw [r1]; omega
          have r3 : ¬ (D : Int) < 0 := by omega
          clear r1 h0
          go_wp2_with (at_builtin; refine wpList_append_src _ rfl _ _ _ rfl w.heap.size 3 i0 _ 1 8 Try.underlying26 hi hz0 hz1 hz2 rfl (by omega) _ 1 [.int .i64 (D : Int)] rfl hself.out A ds.length c (intsL ds) rfl HA.out (by simp [intsL]) hsrc.out (intsL_one ds) (by simp only [maxLen]; omega) (by omega) (by have := hbl.out.size; simp; omega) ?_; intro v2 w2 hr2 hg2 hat2)
          have HR2 := Lib.hid (show w2.ownsRow w.heap.size 3 1 v2 (D :: ds).length (intsL (D :: ds)) by rw [Nat.add_comm] at hr2; exact hr2)
          have HB2 := Lib.hid (below_grew (hbl.out.trans (HBL.out.mono hbl.out.size)) hg2 (fun k hk => by cases hk; exact hbl.out.size))
          clear hr2 hg2 hat2
          go_wp2_with fail
          go_roundw
          case rel => exact ⟨-(Qn : Int), D :: ds, rfl, by omega, by omega, HNX.out _ (by simp), ⟨HB2.out, HR2.out⟩⟩
          case measure => simp [intOf]; have := HQ.out; omega
        · have r3 : -(D : Int) < 0 := by omega
          go_wp2_with (at_builtin; refine wpList_append_src _ rfl _ _ _ rfl w.heap.size 3 i0 _ 1 8 Try.underlying26 hi hz0 hz1 hz2 rfl (by omega) _ 1 [.int .i64 (D : Int)] rfl hself.out A ds.length c (intsL ds) rfl HA.out (by simp [intsL]) hsrc.out (intsL_one ds) (by simp only [maxLen]; omega) (by omega) (by have := hbl.out.size; simp; omega) ?_; intro v2 w2 hr2 hg2 hat2)
          have HR2 := Lib.hid (show w2.ownsRow w.heap.size 3 1 v2 (D :: ds).length (intsL (D :: ds)) by rw [Nat.add_comm] at hr2; exact hr2)
          have HB2 := Lib.hid (below_grew (hbl.out.trans (HBL.out.mono hbl.out.size)) hg2 (fun k hk => by cases hk; exact hbl.out.size))
          clear hr2 hg2 hat2
          go_wp2_with fail
          go_roundw
          case rel => exact ⟨-(Qn : Int), D :: ds, rfl, by omega, by omega, HNX.out _ (by simp), ⟨HB2.out, HR2.out⟩⟩
          case measure => simp [intOf]; have := HQ.out; omega
end Go.Proofs.Ytifdpcjfjoekmaa
