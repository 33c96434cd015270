/-
  Package num: size, count, Right: their contracts. Conditions: those said in each statement.
  counterpaneref01: digits, Of, Right: their contracts. Conditions: those said in each statement.
  Package value: Right, and what it asks; num.Right of any number: their contracts. Conditions: the ints fit 64 bits.
-/
import Derived.Test.YtoicnghjjgkebaaGreatDoorQ1
import Derived.MapKept
set_option linter.unusedSectionVars false
set_option linter.unusedSimpArgs false
set_option linter.unusedVariables false
set_option linter.unnecessarySimpa false
namespace Go.Proofs.YtoicnghjjgkebaaGreatDoor
open Go.RowKit
theorem Tryz.info3 : (Tryz.prog.info? 3).map (fun i => (i.zero, i.size, i.bytes)) = some (some (.int .i64 0), 1, 8) := by kernel_rfl
theorem ret_u64 {a b : Int} (h : a = b) : Ending.returned (.int .u64 a) = .returned (.int .u64 b) := by rw [h]
theorem ret_i64 {a b : Int} (h : a = b) : Ending.returned (.int .i64 a) = .returned (.int .i64 b) := by rw [h]

set_option maxHeartbeats 1000000 in
theorem size_c (m : Int) (h1 : -1000000000000000 ≤ m) (h2 : m ≤ 1000000000000000) (w : World) :
    Calls Tryz.prog 172 #[.int .i64 m] w fun e w' => e = .returned (.int .u64 m.natAbs) ∧ w = w' := by
  by_cases h : m < 0
  · go_enter Tryz.func172, Tryz.ntmps172
    go_wp2
    go_ret
    refine ⟨ret_u64 ?_, rfl⟩
    simp only [IntKind.wrap, IntKind.signed, IntKind.bits, Bool.false_and, Bool.false_eq_true, if_false]
    omega
  · go_enter Tryz.func172, Tryz.ntmps172
    go_wp2
    go_ret
    refine ⟨ret_u64 ?_, rfl⟩
    first | omega | (unfold IntKind.wrap; simp; omega)

/-- How many digits. -/
def ndigN : Nat → Nat → Nat
  | 0, _ => 1
  | f + 1, n => if n < 10 then 1 else ndigN f (n / 10) + 1
def ndig (n : Nat) : Nat := ndigN 20 n
theorem ndigN_more : ∀ (f n : Nat), n < 10 ^ (f + 1) → ndigN (f + 1) n = ndigN f n
  | 0, n, h => by simp [ndigN]; omega
  | f + 1, n, h => by
    unfold ndigN
    split
    · rfl
    · rw [ndigN_more f (n / 10) (by rw [Nat.pow_succ] at h; omega)]
theorem ndig_step {n : Nat} (h : ¬ n < 10) (hn : n < 10 ^ 20) : ndig n = ndig (n / 10) + 1 := by
  unfold ndig
  show ndigN (19 + 1) n = _
  rw [ndigN]
  rw [if_neg h, ← ndigN_more 19 (n / 10) (by omega)]
theorem ndig_one {n : Nat} (h : n < 10) : ndig n = 1 := by
  unfold ndig
  show ndigN (19 + 1) n = 1
  rw [ndigN, if_pos h]
theorem ndigN_le : ∀ (f n : Nat), 1 ≤ ndigN f n ∧ ndigN f n ≤ f + 1
  | 0, n => by simp [ndigN]
  | f + 1, n => by
    unfold ndigN
    split
    · omega
    · have := ndigN_le f (n / 10); omega
theorem ndig_le (n : Nat) : 1 ≤ ndig n ∧ ndig n ≤ 21 := ndigN_le 20 n

set_option maxHeartbeats 1000000 in
theorem count_c (n : Nat) (h : n < 1000000000000000) (w : World) :
    Calls Tryz.prog 173 #[.int .u64 n] w fun e w' => e = .returned (.int .i64 (ndig n)) ∧ w = w' := by
  go_enter Tryz.func173, Tryz.ntmps173
  go_wp2
  go_loop [0, 3] (fun x d => ∃ m k : Nat, x = .int .u64 m ∧ d = .int .i64 ((k : Int) + 1) ∧ m < 1000000000000000 ∧ k + ndig m = ndig n) (fun x _ => (intOf x).toNat)
  case atStart => exact ⟨n, 0, rfl, by simp, h, by simp⟩
  case round =>
    obtain ⟨m, k, rfl, rfl, hm, hk⟩ := hrel
    have HK := Lib.hid hk
    have hkb : (k : Int) ≤ 21 := by have := ndig_le n; have := ndig_le m; omega
    clear hk
    by_cases h10 : m < 10
    · have e := ndig_one h10
      have hd : ¬ (10 : Int) ≤ (m : Int) := by omega
      have HE := Lib.hid e
      clear e
      go_wp2
      go_ret
      refine ⟨ret_i64 ?_, rfl⟩
      have := HK.out; have := HE.out; omega
    · have e := ndig_step h10 (by omega)
      have hd : (10 : Int) ≤ (m : Int) := by omega
      have HE := Lib.hid e
      clear e
      go_wp2
      go_round
      case rel => exact ⟨m / 10, k + 1, by simp, by simp, by omega, by have := HK.out; have := HE.out; omega⟩
      case measure => simp [intOf]; omega

theorem Calls.quiet_ws {P : Program} {f : FuncId} {args : Array Value} {w : World} {n : Nat} {v : Value}
    (h : Calls P f args (w.drewN n) fun e w' => e = .returned v ∧ w.drewN n = w') : Calls P f args (w.drewN n) fun e w'' => e = .returned v ∧ ∃ m, w'' = w.drewN m :=
  h.mono fun _ _ ⟨he, hm⟩ => ⟨he, n, hm.symm⟩
/-- A right number. -/
structure RightN (m e : Int) : Prop where
  zero : m = 0 → e = 0
  lo : -1000000000000000 < m
  hi : m < 1000000000000000
  mod : m ≠ 0 → m % 10 ≠ 0
  elo : -40 ≤ e
  top : m ≠ 0 → (ndig m.natAbs : Int) + e ≤ 40
set_option maxRecDepth 100000 in
set_option maxHeartbeats 4000000 in
theorem right_c (m e : Int) (h : RightN m e) (w : World) :
    Calls Tryz.prog 112 #[.agg #[.int .i64 m, .int .i64 e]] w fun x w' => x = .returned (.bool true) ∧ ∃ n, w' = (w.alloc (.cells #[.int .i64 m, .int .i64 e] 31)).drewN n := by
  by_cases h0 : m = 0
  · have e0 := h.zero h0
    subst h0
    subst e0
    clear h
    go_enter Tryz.func112, Tryz.ntmps112
    go_wp2
    go_ret
    exact ⟨rfl, 0, rfl⟩
  · have b1 := h.lo
    have b2 := h.hi
    have hb1 : (m == 0) = false := by simpa using h0
    have xl : m.natAbs < 1000000000000000 := by omega
    have hx : decide ((1000000000000000 : Int) ≤ (m.natAbs : Int)) = false := by rw [decide_eq_false_iff_not]; omega
    have hm := h.mod h0
    have hmod : (((m.natAbs : Int) % 10) == 0) = false := by rw [beq_eq_false_iff_ne]; omega
    have he1 : decide (e < -40) = false := by rw [decide_eq_false_iff_not]; have := h.elo; omega
    have nx := ndig_le m.natAbs
    have ht := h.top h0
    have he2 : decide (40 ≤ e) = false := by rw [decide_eq_false_iff_not]; omega
    have he3 : (-40 : Int) ≤ e := h.elo
    have he4 : e ≤ 40 := by omega
    clear h hm
    go_enter Tryz.func112, Tryz.ntmps112
    go_wp2_with (go_at_call 172; refine (size_c _ (by omega) (by omega) _).mono ?_; rintro e w' ⟨rfl, rfl⟩)
    have hle : decide ((ndig m.natAbs : Int) + e ≤ 40) = true := decide_eq_true ht
    go_quiet ((go_at_call 173; exact Calls.quiet_ws (count_c _ (by omega) _)))
    go_wp2
    go_ret
    exact ⟨rfl, _, rfl⟩

structure Val where
  kind : Int
  mant : Int
  exp : Int
  text : ByteArray
  truth : Bool
  fault : Int
def Val.cs (x : Val) : List Value := [.int .i64 x.kind, .int .i64 x.mant, .int .i64 x.exp, .string x.text, .bool x.truth, .int .i64 x.fault]
def zeroV : Val := ⟨0, 0, 0, ⟨#[]⟩, false, 0⟩
instance : Inhabited Val := ⟨zeroV⟩
def ManyR {α : Type} (f : α → List Value) (k : Nat) (w : World) (A : Option Addr) (l : List α) : Prop :=
  l ≠ [] → ∃ b off, A = some ⟨b, off, none⟩ ∧ b < w.heap.size ∧ ∀ i (h : i < l.length), ∀ j v, (f l[i])[j]? = some v → w.cell? ⟨b, off + i * k + j, none⟩ = some v
theorem ManyR.next {α : Type} {f : α → List Value} {k : Nat} {w w' : World} {A : Option Addr} {l : List α} (h : ManyR f k w A l) (hb : Below w.heap.size w w') : ManyR f k w' A l := fun hl => by
  obtain ⟨b, off, hA, hlt, hc⟩ := h hl
  exact ⟨b, off, hA, Nat.lt_of_lt_of_le hlt hb.size, fun i hi j v hv => (hb.cell (p := ⟨b, off + i * k + j, none⟩) hlt).trans (hc i hi j v hv)⟩
end Go.Proofs.YtoicnghjjgkebaaGreatDoor
namespace Go.Proofs.YtoicnghjjgkebaaGreatDoor
open Go.RowKit


theorem wpList_append_src {P : Program} (w : World) {ops : Array Oper} {rest : List Oper} {o : Oper} {a : Act} {Q : Exit → Act → World → Prop} (hgd : o.guard = none) (s x : Operand) (t : TypeId)
    (ho : o.op = .call { callee := .builtin .append, args := #[s, x], argTypes := #[t, t] })
    (base : Nat) (e : TypeId) (i : TypeInfo) (z : Value) (size bytes : Nat) (ht : P.underlying t = some (.slice e)) (hi : P.info? e = some i) (hz : i.zero = some z)
    (hsize : i.size = size) (hby : i.bytes = bytes) (hzs : z.cells.size = size) (hsz : 0 < size)
    (v : Value) (n : Nat) (xs : List Value) (hs : a.eval s = v) (hown : w.ownsRow base e size v n xs)
    (A : Option Addr) (m c : Nat) (news : List Value) (hx : a.eval x = .slice A m c) (hA : A = none → m = 0 ∧ c = 0) (hl : news.length = m * size) (hnews : ∀ ad, A = some ad → ∀ j u, news[j]? = some u → w.cell? (ad.add j) = some u) (h1 : ∀ u ∈ news, u.oneCell' = true)
    (h63 : n + m ≤ maxLen) (hbytes : (n + m) * bytes ≤ 140737488355328) (hbase : base ≤ w.heap.size)
    (h : ∀ v' w', w'.ownsRow base e size v' (n + m) (xs ++ news) → w.grownBy w' v.ownBlock → (v'.ownBlock = v.ownBlock ∨ v'.ownBlock = some w.heap.size) → wpList P ops Q rest (a.put o.dst v') w') :
    wpList P ops Q (o :: rest) a w := by
  cases A with
  | some ad => exact wpList_append_own_at w hgd s x t ho base e i z size bytes ht hi hz hsize hby hzs hsz v n xs hs hown ad m c news hx hl (hnews ad rfl) h1 h63 hbytes hbase (fun v' w' h2 h3 _ h5 => h v' w' h2 h3 h5)
  | none =>
    obtain ⟨rfl, rfl⟩ := hA rfl
    have hn0 : news = [] := by cases news with | nil => rfl | cons _ _ => simp at hl
    subst hn0
    refine wpList_plain hgd fun K hK => ?_
    have hr := run_append_owned_none (P := P) (w := w) base t o.type e i size ht hi v n xs hown
    unfold Oper.wp execOp
    simp only [ho, resolve, invoke, builtin, Sem.run_bind, Sem.run_pure, Result.andThen_ok, List.map_toArray, List.map_cons, List.map_nil, hs, hx, hr]
    exact hK _ _ (h v w (by simpa using hown) ⟨rfl, rfl, rfl, Nat.le_refl _, fun _ _ _ => rfl⟩ (.inl rfl))


theorem ownsRow_shape {w : World} {base : Nat} {e : TypeId} {size : Nat} {v : Value} {n : Nat} {xs : List Value} (h : w.ownsRow base e size v n xs) : ∃ A c, v = .slice A n c ∧ ((A = none ∧ n = 0 ∧ c = 0) ∨ ∃ g, A = some ⟨g, 0, none⟩ ∧ n ≤ c) := by
  rcases h.2 with ⟨hv, rfl⟩ | ⟨g, cap, cur, hv, _, _, h1, _⟩
  · exact ⟨none, 0, hv, .inl ⟨rfl, rfl, rfl⟩⟩
  · exact ⟨_, _, hv, .inr ⟨g, rfl, h1⟩⟩

/-- The digits, the first one first. -/
def dgN : Nat → Nat → List Nat
  | 0, _ => []
  | f + 1, n => if n = 0 then [] else dgN f (n / 10) ++ [n % 10]
def dg (n : Nat) : List Nat := dgN 20 n
theorem dgN_more : ∀ (f n : Nat), n < 10 ^ f → dgN (f + 1) n = dgN f n
  | 0, n, h => by simp [dgN]; omega
  | f + 1, n, h => by
    rw [dgN]
    conv => rhs; rw [dgN]
    split
    · rfl
    · rw [dgN_more f (n / 10) (by rw [Nat.pow_succ] at h; omega)]
theorem dg_step {n : Nat} (h : n ≠ 0) (hn : n < 10 ^ 19) : dg n = dg (n / 10) ++ [n % 10] := by
  unfold dg
  show dgN (19 + 1) n = _
  rw [dgN, if_neg h, ← dgN_more 19 (n / 10) (by omega)]
theorem dg_zero : dg 0 = [] := rfl
theorem dgN_len : ∀ (f n : Nat), 0 < n → n < 10 ^ f → (dgN f n).length = ndigN f n
  | 0, n, h0, h => by simp at h; omega
  | f + 1, n, h0, h => by
    unfold dgN ndigN
    rw [if_neg (by omega)]
    rw [List.length_append]
    split
    · rename_i h10
      have : n / 10 = 0 := by omega
      rw [this]
      cases f <;> simp [dgN]
    · rw [dgN_len f (n / 10) (by omega) (by rw [Nat.pow_succ] at h; omega)]
      rfl
theorem dg_len {n : Nat} (h0 : 0 < n) (hn : n < 10 ^ 15) : (dg n).length = ndig n := dgN_len 20 n h0 (by omega)
theorem dg_le (n : Nat) : (dg n).length ≤ 20 := by
  have : ∀ f n, (dgN f n).length ≤ f := by
    intro f
    induction f with
    | zero => intro n; simp [dgN]
    | succ f ih =>
      intro n
      unfold dgN
      split
      · simp
      · have := ih (n / 10); simp; omega
  exact this 20 n
def intsL (l : List Nat) : List Value := l.map fun (x : Nat) => Value.int .i64 (x : Int)
theorem intsL_one (l : List Nat) : ∀ u ∈ intsL l, u.oneCell' = true := by
  intro u hu
  obtain ⟨x, _, rfl⟩ := List.mem_map.1 hu
  rfl
theorem bs1 (w : World) (x : Int) : (Instr.buildSlice 109 1 #[(0, .int .i64 x)]).run Tryz.prog w = .ok (.slice (some ⟨w.heap.size, 0, none⟩) 1 1) (w.alloc (.cells #[.int .i64 x] 3)) := by
  obtain ⟨i0, hi, hi0, hi1, hi2⟩ := info_parts Tryz.info3
  refine run_buildSlice w 109 3 1 _ _ i0 _ Tryz.underlying109 hi hi0 (by rw [hi1]; omega) (by rw [hi1]; omega) ?_
  rw [hi1]
  kernel_rfl
theorem below_grew {w W W' : World} {row : Option Nat} (h : Below w.heap.size w W) (hg : W.grownBy W' row) (hr : ∀ k, row = some k → w.heap.size ≤ k) : Below w.heap.size w W' :=
  ⟨hg.os.trans h.os, hg.tape.trans h.tape, hg.output.trans h.output, Nat.le_trans h.size hg.size, fun k hk => (hg.block k (Nat.lt_of_lt_of_le hk h.size) (fun e => by have := hr k e.symm; omega)).trans (h.block k hk)⟩
def DigP (w : World) (l : List Nat) (e : Ending) (w' : World) : Prop := ∃ v, e = .returned v ∧ Below w.heap.size w w' ∧ w'.ownsRow w.heap.size 3 1 v l.length (intsL l)
theorem tmod10 (m : Int) (h : m < 0) : m.tmod 10 = -((m.natAbs % 10 : Nat) : Int) := by
  obtain ⟨k, rfl⟩ : ∃ k : Nat, m = -(k : Int) := ⟨m.natAbs, by omega⟩
  rw [Int.neg_tmod, Int.natAbs_neg]; rfl
theorem tdiv10 (m : Int) (h : m < 0) : m.tdiv 10 = -((m.natAbs / 10 : Nat) : Int) := by
  obtain ⟨k, rfl⟩ : ∃ k : Nat, m = -(k : Int) := ⟨m.natAbs, by omega⟩
  rw [Int.neg_tdiv, Int.natAbs_neg]; rfl

set_option maxRecDepth 100000 in
set_option maxHeartbeats 4000000 in
theorem digits_c (m0 : Int) (h1 : -1000000000000000 ≤ m0) (h2 : m0 ≤ 1000000000000000) (w : World) : Calls Tryz.prog 175 #[.int .i64 m0] w (DigP w (dg m0.natAbs)) := by
  obtain ⟨i0, hi, hz0, hz1, hz2⟩ := info_parts Tryz.info3
  go_enter Tryz.func175, Tryz.ntmps175
  go_wp2_with fail
  go_loopw [0, 3] (fun i v wr => ∃ (m : Int) (ds : List Nat), i = .int .i64 m ∧ -1000000000000000 ≤ m ∧ m ≤ 1000000000000000 ∧ Hid (dg m0.natAbs = dg m.natAbs ++ ds) ∧ Hid (Below w.heap.size w wr ∧ wr.ownsRow w.heap.size 3 1 v ds.length (intsL ds))) (fun i _ _ => (intOf i).natAbs)
  case atStart => exact ⟨m0, [], rfl, h1, h2, by show _ = _; simp, ⟨Below.refl _ _, World.ownsRow_nil _ _ _ _⟩⟩
  case round =>
    obtain ⟨m, ds, rfl, l1, l2, hd, hw⟩ := hrel
    by_cases hm : m = 0
    · subst hm
      have hd' := hd.out
      rw [Int.natAbs_zero, dg_zero, List.nil_append] at hd'
      have HD := Lib.hid hd'
      clear hd'
      go_wp2_with fail
      go_ret
      exact ⟨_, rfl, hw.out.1, by rw [HD.out]; exact hw.out.2⟩
    · have hmb : (m != 0) = true := by rw [bne_iff_ne]; exact hm
      have hst := Lib.hid (dg_step (n := m.natAbs) (by omega) (by omega))
      obtain ⟨A, c, rfl, hAc⟩ := ownsRow_shape hw.out.2
      have hdl : ds.length ≤ 20 := by have := hd.out; have l := dg_le m0.natAbs; rw [this, List.length_append] at l; omega
      have hrow := Lib.hid hw.out.2
      have hbl := Lib.hid hw.out.1
      clear hw
      obtain ⟨D, hD⟩ : ∃ D, m.natAbs % 10 = D := ⟨_, rfl⟩
      have hD9 : D ≤ 9 := by omega
      have HD := Lib.hid hD
      obtain ⟨Qn, hQ⟩ : ∃ Q, m.natAbs / 10 = Q := ⟨_, rfl⟩
      have HQ := Lib.hid hQ
      have hbs := bs1 wr D
      have HNX : Hid (∀ q : Int, q.natAbs = Qn → dg m0.natAbs = dg q.natAbs ++ (D :: ds)) := fun q hq => by
        rw [hd.out, hst.out, hq, HQ.out, HD.out, List.append_assoc]; rfl
      have hA : A = none → ds.length = 0 ∧ c = 0 := fun e => by rcases hAc with ⟨_, h3, h4⟩ | ⟨g, h3, _⟩; exact ⟨h3, h4⟩; rw [h3] at e; cases e
      have HA := Lib.hid hA
      have bl : Below wr.heap.size wr (wr.alloc (.cells #[.int .i64 (D : Int)] 3)) := (Below.refl _ wr).alloc (Nat.le_refl _) _
      have HBL := Lib.hid bl
      have hsrc : Hid (∀ ad, A = some ad → ∀ j u, (intsL ds)[j]? = some u → (wr.alloc (.cells #[.int .i64 (D : Int)] 3)).cell? (ad.add j) = some u) := fun ad hE j u hj => by
        rcases hAc with ⟨h3, _⟩ | ⟨g, h3, _⟩
        · rw [h3] at hE; cases hE
        · rw [h3] at hE; cases hE
          have hc := hrow.out.cells (g := g) (by rw [h3]; rfl) j u hj
          have hlt := World.block_lt_of_cell? wr _ hc
          rw [World.cell?_alloc_lt _ _ _ hlt]
          exact hc
      have hself : Hid ((wr.alloc (.cells #[.int .i64 (D : Int)] 3)).ownsRow w.heap.size 3 1 (.slice (some ⟨wr.heap.size, 0, none⟩) 1 1) 1 [.int .i64 (D : Int)]) :=
        ⟨rfl, .inr ⟨wr.heap.size, 1, #[.int .i64 (D : Int)], rfl, hbl.out.size, heap_alloc_new wr _, Nat.le_refl _, by decide, rfl, rfl⟩⟩
      clear hd hst hrow hA hAc bl hD hQ
      by_cases hpos : 0 ≤ m
      · have r1 : m % 10 = (D : Int) := by have := HD.out; omega
        have r2 : m / 10 = (Qn : Int) := by have := HQ.out; omega
        have r3 : ¬ (D : Int) < 0 := by omega
        go_wp2_with (at_builtin; refine wpList_append_src _ rfl _ _ _ rfl w.heap.size 3 i0 _ 1 8 Tryz.underlying109 hi hz0 hz1 hz2 rfl (by omega) _ 1 [.int .i64 (D : Int)] rfl hself.out A ds.length c (intsL ds) rfl HA.out (by simp [intsL]) hsrc.out (intsL_one ds) (by simp only [maxLen]; omega) (by omega) (by have := hbl.out.size; simp; omega) ?_; intro v2 w2 hr2 hg2 hat2)
        have HR2 := Lib.hid (show w2.ownsRow w.heap.size 3 1 v2 (D :: ds).length (intsL (D :: ds)) by rw [Nat.add_comm] at hr2; exact hr2)
        have HB2 := Lib.hid (below_grew (hbl.out.trans (HBL.out.mono hbl.out.size)) hg2 (fun k hk => by cases hk; exact hbl.out.size))
        clear hr2 hg2 hat2
        go_wp2_with fail
        go_roundw
        case rel => exact ⟨(Qn : Int), D :: ds, by rw [r2], by omega, by omega, HNX.out _ (by simp), ⟨HB2.out, HR2.out⟩⟩
        case measure => simp [intOf]; omega
      · have hneg : m < 0 := by omega
        have hq0 : Qn ≤ 1000000000000000 := by have := HQ.out; omega
        have r1 : m.tmod 10 = -(D : Int) := by rw [tmod10 m hneg, HD.out]
        have r2 : IntKind.i64.wrap (m.tdiv 10) = -(Qn : Int) := by rw [tdiv10 m hneg, HQ.out]; exact IntWalk.i64_in _ (by omega)
        rcases Nat.eq_zero_or_pos D with h0 | h0
        · have r4 : m.tmod 10 = (D : Int) := by rw [r1]; omega
          have r3 : ¬ (D : Int) < 0 := by omega
          clear r1 h0
          go_wp2_with (at_builtin; refine wpList_append_src _ rfl _ _ _ rfl w.heap.size 3 i0 _ 1 8 Tryz.underlying109 hi hz0 hz1 hz2 rfl (by omega) _ 1 [.int .i64 (D : Int)] rfl hself.out A ds.length c (intsL ds) rfl HA.out (by simp [intsL]) hsrc.out (intsL_one ds) (by simp only [maxLen]; omega) (by omega) (by have := hbl.out.size; simp; omega) ?_; intro v2 w2 hr2 hg2 hat2)
          have HR2 := Lib.hid (show w2.ownsRow w.heap.size 3 1 v2 (D :: ds).length (intsL (D :: ds)) by rw [Nat.add_comm] at hr2; exact hr2)
          have HB2 := Lib.hid (below_grew (hbl.out.trans (HBL.out.mono hbl.out.size)) hg2 (fun k hk => by cases hk; exact hbl.out.size))
          clear hr2 hg2 hat2
          go_wp2_with fail
          go_roundw
          case rel => exact ⟨-(Qn : Int), D :: ds, rfl, by omega, by omega, HNX.out _ (by simp), ⟨HB2.out, HR2.out⟩⟩
          case measure => simp [intOf]; have := HQ.out; omega
        · have r3 : -(D : Int) < 0 := by omega
          go_wp2_with (at_builtin; refine wpList_append_src _ rfl _ _ _ rfl w.heap.size 3 i0 _ 1 8 Tryz.underlying109 hi hz0 hz1 hz2 rfl (by omega) _ 1 [.int .i64 (D : Int)] rfl hself.out A ds.length c (intsL ds) rfl HA.out (by simp [intsL]) hsrc.out (intsL_one ds) (by simp only [maxLen]; omega) (by omega) (by have := hbl.out.size; simp; omega) ?_; intro v2 w2 hr2 hg2 hat2)
          have HR2 := Lib.hid (show w2.ownsRow w.heap.size 3 1 v2 (D :: ds).length (intsL (D :: ds)) by rw [Nat.add_comm] at hr2; exact hr2)
          have HB2 := Lib.hid (below_grew (hbl.out.trans (HBL.out.mono hbl.out.size)) hg2 (fun k hk => by cases hk; exact hbl.out.size))
          clear hr2 hg2 hat2
          go_wp2_with fail
          go_roundw
          case rel => exact ⟨-(Qn : Int), D :: ds, rfl, by omega, by omega, HNX.out _ (by simp), ⟨HB2.out, HR2.out⟩⟩
          case measure => simp [intOf]; have := HQ.out; omega


def OfP (w : World) (m ex : Int) (e : Ending) (w' : World) : Prop := ∃ v, e = .returned (.agg #[.bool (decide (m < 0)), v, .int .i64 ex]) ∧ Below w.heap.size w w' ∧ w'.ownsRow w.heap.size 3 1 v (dg m.natAbs).length (intsL (dg m.natAbs))
theorem ownsRow_lower {w : World} {base b' : Nat} {e : TypeId} {size : Nat} {v : Value} {n : Nat} {xs : List Value} (h : w.ownsRow base e size v n xs) (hb : b' ≤ base) : w.ownsRow b' e size v n xs := by
  refine ⟨h.1, ?_⟩
  rcases h.2 with h2 | ⟨g, cap, cur, hv, hbb, hg, h3⟩
  · exact .inl h2
  · exact .inr ⟨g, cap, cur, hv, Nat.le_trans hb hbb, hg, h3⟩
def put3 (W : World) (X : Nat) (a b c : Value) : World := ((W.setCell ⟨X, 0, none⟩ a).setCell ⟨X, 1, none⟩ b).setCell ⟨X, 2, none⟩ c
theorem blk_put3 {W : World} {X : Nat} {ty : TypeId} {u0 u1 u2 : Value} (h : Blk W X ty #[u0, u1, u2]) (a b c : Value) : Blk (put3 W X a b c) X ty #[a, b, c] := by
  have := ((h.store 0 a).store 1 b).store 2 c
  simp only [List.setIfInBounds_toArray, List.set_cons_succ, List.set_cons_zero] at this
  exact this
theorem blk_put3far {W : World} {X Y : Nat} {ty : TypeId} {cs : Array Value} (h : Blk W Y ty cs) (hne : Y ≠ X) (a b c : Value) : Blk (put3 W X a b c) Y ty cs := ((h.far hne a).far hne b).far hne c
theorem below_put3 {n : Nat} {w W : World} {X : Nat} (h : Below n w W) (hX : n ≤ X) (a b c : Value) : Below n w (put3 W X a b c) := ((h.setCell hX a).setCell hX b).setCell hX c
theorem put3_heap (W : World) (X : Nat) (a b c : Value) {g : Nat} (h : g ≠ X) : (put3 W X a b c).heap[g]? = W.heap[g]? := by
  unfold put3
  rw [Below.heap_setCell _ _ _ _ h, Below.heap_setCell _ _ _ _ h, Below.heap_setCell _ _ _ _ h]
theorem ownsRow_ne {w : World} {base : Nat} {e : TypeId} {size : Nat} {v : Value} {n : Nat} {xs : List Value} (h : w.ownsRow base e size v n xs) {X : Nat} {ty : TypeId} {cs : Array Value} (hb : Blk w X ty cs) (hne : ty ≠ e) : ∀ g, v.ownBlock = some g → g ≠ X := fun g hg e' => by
  subst e'
  rcases h.2 with ⟨hv, _⟩ | ⟨g', cap, cur, hv, _, hh, _⟩
  · rw [hv] at hg; cases hg
  · rw [hv] at hg; cases hg
    unfold Blk at hb
    rw [hb] at hh
    injection hh with hh
    injection hh with _ ht
    exact hne ht
set_option maxRecDepth 100000 in
set_option maxHeartbeats 4000000 in
theorem of_c (m ex : Int) (h1 : -1000000000000000 ≤ m) (h2 : m ≤ 1000000000000000) (w : World) : Calls Tryz.prog 117 #[.agg #[.int .i64 m, .int .i64 ex]] w (OfP w m ex) := by
  have bV : Below w.heap.size w ((w.alloc (.cells #[.int .i64 m, .int .i64 ex] 31)).alloc (.cells #[.bool false, .slice none 0 0, .int .i64 0] 234)) := ((Below.refl _ w).alloc (Nat.le_refl _) _).alloc (by simp) _
  have HB := Lib.hid bV
  have bX := Lib.hid ((Blk.new w 31 #[.int .i64 m, .int .i64 ex]).alloc (.cells #[.bool false, .slice none 0 0, .int .i64 0] 234))
  have bY := Lib.hid (show Blk ((w.alloc (.cells #[.int .i64 m, .int .i64 ex] 31)).alloc (.cells #[.bool false, .slice none 0 0, .int .i64 0] 234)) (w.heap.size + 1) 234 #[.bool false, .slice none 0 0, .int .i64 0] by
    have := Blk.new (w.alloc (.cells #[.int .i64 m, .int .i64 ex] 31)) 234 #[.bool false, .slice none 0 0, .int .i64 0]
    rw [World.size_alloc] at this; exact this)
  clear bV
  go_enter Tryz.func117, Tryz.ntmps117
  go_wp2_with fail
  generalize ((w.alloc (.cells #[.int .i64 m, .int .i64 ex] 31)).alloc (.cells #[.bool false, .slice none 0 0, .int .i64 0] 234)) = V at *
  have HC : AllCells V.drew [(⟨w.heap.size, 0, none⟩, .int .i64 m), (⟨w.heap.size, 1, none⟩, .int .i64 ex)] := ⟨bX.out.cell 0, bX.out.cell 1, trivial⟩
  refine rfree [0, 1, 2, 3, 4, 6, 7] 3 (by kernel_rfl) (fun _ _ _ _ _ h => h) HC ?_
  intro hne hu; try simp only [AllCells] at hu
  simp only [pick, pk]
  repeat (go_big_quiet_step (fail))
  refine wpQuiet_nil ?_; clear hne hu
  refine anyN_oneL 5 (by kernel_rfl) ?_; simp only [pk]
  go_wp2_with fail
  refine (digits_c m h1 h2 V.drew).mono ?_
  rintro e w1 ⟨v, rfl, b1, r1⟩
  obtain ⟨A, c, rfl, _⟩ := ownsRow_shape r1
  have HC1 := AllCells.below HC b1
  have hb1 : Below V.heap.size V w1 := ((Below.refl _ V).drew).trans (b1.mono (Nat.le_refl _))
  have HB1 := Lib.hid (HB.out.trans (hb1.mono HB.out.size))
  have bY1 := Lib.hid (bY.out.kept (hb1.block _ bY.out.lt))
  have bX1 := Lib.hid (bX.out.kept (hb1.block _ bX.out.lt))
  have R1 := Lib.hid r1
  have hYV := Lib.hid bY.out.lt
  clear b1 hb1 r1 bY bX HC
  go_wp2_with fail
  refine And.intro (by first | exact fun _ => HC1 | exact HC1) ?_
  refine rmore [8] 1 (by kernel_rfl) (fun _ _ _ _ _ h => h) HC1 ?_
  intro hne hu; try simp only [AllCells] at hu
  simp only [pick, pk]
  repeat (go_big_quiet_step (fail))
  refine wpQuiet_nil ?_; clear hne hu
  have c0 := bY1.out.cell 0
  have c1 := bY1.out.cell 1
  have c2 := bY1.out.cell 2
  have f0 := bY1.out.frozen 0
  have f1 := bY1.out.frozen 1
  have f2 := bY1.out.frozen 2
  have lY := bY1.out.lt
  simp only [List.getElem?_toArray, List.getElem?_cons_zero, List.getElem?_cons_succ] at c0 c1 c2
  refine anyN_oneL 9 (by kernel_rfl) ?_; simp only [pk]
  go_wp2_with fail
  change (_ → AllCells (put3 w1 (w.heap.size + 1) (.bool (decide (m < 0))) (.slice A (dg m.natAbs).length c) (.int .i64 ex)) _) ∧ wpAnyN _ _ _ _ _ _ _ _ _ (put3 w1 (w.heap.size + 1) (.bool (decide (m < 0))) (.slice A (dg m.natAbs).length c) (.int .i64 ex))
  have bY2 := Lib.hid (blk_put3 bY1.out (.bool (decide (m < 0))) (.slice A (dg m.natAbs).length c) (.int .i64 ex))
  have bX2 := Lib.hid (blk_put3far bX1.out (show w.heap.size ≠ w.heap.size + 1 by omega) (.bool (decide (m < 0))) (.slice A (dg m.natAbs).length c) (.int .i64 ex))
  have HB2 := Lib.hid (below_put3 HB1.out (show w.heap.size ≤ w.heap.size + 1 by omega) (.bool (decide (m < 0))) (.slice A (dg m.natAbs).length c) (.int .i64 ex))
  have R2 := Lib.hid (ownsRow_lower (ownsRow_kept R1.out (w' := put3 w1 (w.heap.size + 1) (.bool (decide (m < 0))) (.slice A (dg m.natAbs).length c) (.int .i64 ex)) (fun g hg _ => put3_heap w1 _ _ _ _ (ownsRow_ne R1.out bY1.out (by decide) g hg))) (show w.heap.size ≤ V.drew.heap.size from HB.out.size))
  clear bY1 bX1 HB1 R1 HC1 c0 c1 c2 f0 f1 f2 lY
  generalize put3 w1 (w.heap.size + 1) (.bool (decide (m < 0))) (.slice A (dg m.natAbs).length c) (.int .i64 ex) = W2 at *
  refine And.intro (by first | exact fun _ => ⟨bX2.out.cell 0, bX2.out.cell 1, trivial⟩ | exact ⟨bX2.out.cell 0, bX2.out.cell 1, trivial⟩) ?_
  refine ⟨by kernel_rfl, ?_⟩
  have d0 := bY2.out.cell 0
  have d1 := bY2.out.cell 1
  have d2 := bY2.out.cell 2
  simp only [List.getElem?_toArray, List.getElem?_cons_zero, List.getElem?_cons_succ] at d0 d1 d2
  go_wp2_with fail
  exact bodyPost_ret (v := .agg #[.bool (decide (m < 0)), .slice A (dg m.natAbs).length c, .int .i64 ex]) (by simp [results, Tryz.f117, go_sem, d0, d1, d2]) rfl ⟨_, rfl, HB2.out, R2.out⟩

@[go_sem ↓] theorem Tryz.field234 (w : World) (b : Bool) (A : Option Addr) (n c : Nat) (x : Int) : (Instr.field 234 (.agg #[.bool b, .slice A n c, .int .i64 x]) 1).run Tryz.prog w = .ok (.slice A n c) w := by kernel_rfl
/-- It tells of right numbers, and of no others, that they are right. -/
def RgtP (w : World) (m ex : Int) (e : Ending) (w' : World) : Prop := ∃ b : Bool, e = .returned (.bool b) ∧ (b = true ↔ RightN m ex) ∧ Below w.heap.size w w'
set_option maxRecDepth 100000 in
set_option maxHeartbeats 4000000 in
theorem rright_c (m ex : Int) (h1 : -9223372036854775808 ≤ m) (h2 : m ≤ 9223372036854775807) (h3 : -9223372036854775808 ≤ ex) (h4 : ex ≤ 9223372036854775807) (w : World) : Calls Tryz.prog 59 #[.agg #[.int .i64 m, .int .i64 ex]] w (RgtP w m ex) := by
  have bV : Below w.heap.size w (w.alloc (.cells #[.int .i64 m, .int .i64 ex] 31)) := (Below.refl _ w).alloc (Nat.le_refl _) _
  have HB := Lib.hid bV
  have bX := Lib.hid (Blk.new w 31 #[.int .i64 m, .int .i64 ex])
  clear bV
  by_cases h0 : m = 0
  · subst h0
    by_cases h5 : ex = 0
    · subst h5
      go_enter Tryz.func59, Tryz.ntmps59
      go_wp2_with fail
      go_ret
      exact ⟨true, rfl, ⟨fun _ => ⟨fun _ => rfl, by omega, by omega, fun h => absurd rfl h, by omega, fun h => absurd rfl h⟩, fun _ => rfl⟩, HB.out⟩
    · have h6 : (ex == 0) = false := by simpa using h5
      have HBad := Lib.hid (show ¬ RightN 0 ex from fun r => h5 (r.zero rfl))
      clear h5
      go_enter Tryz.func59, Tryz.ntmps59
      go_wp2_with fail
      go_ret
      exact ⟨false, rfl, ⟨(fun h => by cases h), fun r => absurd r HBad.out⟩, HB.out⟩
  · have h0b : (m == 0) = false := by simpa using h0
    by_cases c1 : (1000000000000000 : Int) ≤ m
    · have c1b : decide ((1000000000000000 : Int) ≤ m) = true := decide_eq_true c1
      have HBad := Lib.hid (show ¬ RightN m ex from fun r => by have := r.hi; omega)
      clear c1 h0
      go_enter Tryz.func59, Tryz.ntmps59
      go_wp2_with fail
      go_ret
      exact ⟨false, rfl, ⟨(fun h => by cases h), fun r => absurd r HBad.out⟩, HB.out⟩
    · have c1b : decide ((1000000000000000 : Int) ≤ m) = false := decide_eq_false c1
      by_cases c2 : m ≤ -1000000000000000
      · have c2b : decide (m ≤ -1000000000000000) = true := decide_eq_true c2
        have HBad := Lib.hid (show ¬ RightN m ex from fun r => by have := r.lo; omega)
        clear c1 c2 h0
        go_enter Tryz.func59, Tryz.ntmps59
        go_wp2_with fail
        go_ret
        exact ⟨false, rfl, ⟨(fun h => by cases h), fun r => absurd r HBad.out⟩, HB.out⟩
      · have c2b : decide (m ≤ -1000000000000000) = false := decide_eq_false c2
        by_cases c3 : m.tmod 10 = 0
        · have c3b : (m.tmod 10 == 0) = true := by rw [beq_iff_eq]; exact c3
          have HBad := Lib.hid (show ¬ RightN m ex from fun r => r.mod h0 (Int.emod_eq_zero_of_dvd (Int.dvd_of_tmod_eq_zero c3)))
          clear c1 c2 c3 h0
          go_enter Tryz.func59, Tryz.ntmps59
          go_wp2_with fail
          go_ret
          exact ⟨false, rfl, ⟨(fun h => by cases h), fun r => absurd r HBad.out⟩, HB.out⟩
        · have c3b : (m.tmod 10 == 0) = false := by rw [beq_eq_false_iff_ne]; exact c3
          by_cases c4 : ex < -40
          · have c4b : decide (ex < -40) = true := decide_eq_true c4
            have HBad := Lib.hid (show ¬ RightN m ex from fun r => by have := r.elo; omega)
            clear c1 c2 c3 c4 h0
            go_enter Tryz.func59, Tryz.ntmps59
            go_wp2_with fail
            go_ret
            exact ⟨false, rfl, ⟨(fun h => by cases h), fun r => absurd r HBad.out⟩, HB.out⟩
          · have c4b : decide (ex < -40) = false := decide_eq_false c4
            by_cases c5 : 40 < ex
            · have c5b : decide (40 < ex) = true := decide_eq_true c5
              have HBad := Lib.hid (show ¬ RightN m ex from fun r => by have := r.top h0; omega)
              clear c1 c2 c3 c4 c5 h0
              go_enter Tryz.func59, Tryz.ntmps59
              go_wp2_with fail
              go_ret
              exact ⟨false, rfl, ⟨(fun h => by cases h), fun r => absurd r HBad.out⟩, HB.out⟩
            · have c5b : decide (40 < ex) = false := decide_eq_false c5
              have l1 : -1000000000000000 ≤ m := by omega
              have l2 : m ≤ 1000000000000000 := by omega
              have HO := Lib.hid (of_c m ex l1 l2)
              have HN := Lib.hid (dg_len (n := m.natAbs) (by omega) (by omega))
              have HF := Lib.hid (And.intro c1 (And.intro c2 (And.intro c3 (And.intro c4 c5))))
              have e1 : -40 ≤ ex := by omega
              have e2 : ex ≤ 40 := by omega
              have nl : (dg m.natAbs).length ≤ 20 := dg_le _
              have s1 : IntKind.i64.wrap (((dg m.natAbs).length : Int) + ex) = ((dg m.natAbs).length : Int) + ex := IntWalk.i64_in _ (by omega)
              have H0 := Lib.hid h0
              clear c1 c2 c3 c4 c5 h0 h1 h2 h3 h4
              by_cases ht : ((dg m.natAbs).length : Int) + ex ≤ 40
              · have htb : decide (((dg m.natAbs).length : Int) + ex ≤ 40) = true := decide_eq_true ht
                have HT := Lib.hid ht
                clear ht
                go_enter Tryz.func59, Tryz.ntmps59
                go_wp2_with fail
                generalize w.alloc (.cells #[.int .i64 m, .int .i64 ex] 31) = V at *
                have HC : AllCells V.drew [(⟨w.heap.size, 0, none⟩, .int .i64 m), (⟨w.heap.size, 1, none⟩, .int .i64 ex)] := ⟨bX.out.cell 0, bX.out.cell 1, trivial⟩
                refine rfree [0, 4, 5] 6 (by kernel_rfl) (fun _ _ _ _ _ h => h) HC ?_
                intro hne hu; try simp only [AllCells] at hu
                simp only [pick, pk]
                repeat (go_big_quiet_step (fail))
                refine wpQuiet_nil ?_; clear hne hu
                refine anyN_oneL 1 (by kernel_rfl) ?_; simp only [pk]
                go_wp2_with fail
                refine (HO.out _).mono ?_
                rintro e w1 ⟨v, rfl, b1, r1⟩
                obtain ⟨A, c, rfl, _⟩ := ownsRow_shape r1
                have HC1 := AllCells.below HC b1
                have HB1 := Lib.hid (HB.out.drew.trans (b1.mono HB.out.size))
                clear b1 r1 HC HB bX HO
                go_wp2_with fail
                refine And.intro (by first | exact fun _ => HC1 | exact HC1) ?_
                refine anyN_oneL 2 (by kernel_rfl) ?_; simp only [pk]
                go_wp2_with fail
                refine And.intro (by first | exact fun _ => HC1 | exact HC1) ?_
                refine rmore [3, 6, 7, 8] 0 (by kernel_rfl) (fun _ _ _ _ _ h => h) HC1 ?_
                intro hne hu; try simp only [AllCells] at hu
                simp only [pick, pk]
                repeat (go_big_quiet_step (fail))
                refine wpQuiet_nil ?_; clear hne hu
                refine ⟨by kernel_rfl, ?_⟩
                clear HC1
                go_wp2_with fail
                go_ret
                clear s1
                exact ⟨true, rfl, ⟨fun _ => ⟨fun h => absurd h H0.out, by have := HF.out.1; have := HF.out.2.1; omega, by have := HF.out.1; omega, fun _ hh => HF.out.2.2.1 (Int.tmod_eq_zero_of_dvd (Int.dvd_of_emod_eq_zero hh)), e1, fun _ => by have := HN.out; have := HT.out; omega⟩, fun _ => rfl⟩, HB1.out⟩
              · have htb : decide (((dg m.natAbs).length : Int) + ex ≤ 40) = false := decide_eq_false ht
                have HT := Lib.hid ht
                clear ht
                go_enter Tryz.func59, Tryz.ntmps59
                go_wp2_with fail
                generalize w.alloc (.cells #[.int .i64 m, .int .i64 ex] 31) = V at *
                have HC : AllCells V.drew [(⟨w.heap.size, 0, none⟩, .int .i64 m), (⟨w.heap.size, 1, none⟩, .int .i64 ex)] := ⟨bX.out.cell 0, bX.out.cell 1, trivial⟩
                refine rfree [0, 4, 5] 6 (by kernel_rfl) (fun _ _ _ _ _ h => h) HC ?_
                intro hne hu; try simp only [AllCells] at hu
                simp only [pick, pk]
                repeat (go_big_quiet_step (fail))
                refine wpQuiet_nil ?_; clear hne hu
                refine anyN_oneL 1 (by kernel_rfl) ?_; simp only [pk]
                go_wp2_with fail
                refine (HO.out _).mono ?_
                rintro e w1 ⟨v, rfl, b1, r1⟩
                obtain ⟨A, c, rfl, _⟩ := ownsRow_shape r1
                have HC1 := AllCells.below HC b1
                have HB1 := Lib.hid (HB.out.drew.trans (b1.mono HB.out.size))
                clear b1 r1 HC HB bX HO
                go_wp2_with fail
                refine And.intro (by first | exact fun _ => HC1 | exact HC1) ?_
                refine anyN_oneL 2 (by kernel_rfl) ?_; simp only [pk]
                go_wp2_with fail
                refine And.intro (by first | exact fun _ => HC1 | exact HC1) ?_
                refine rmore [3, 6, 7, 8] 0 (by kernel_rfl) (fun _ _ _ _ _ h => h) HC1 ?_
                intro hne hu; try simp only [AllCells] at hu
                simp only [pick, pk]
                repeat (go_big_quiet_step (fail))
                refine wpQuiet_nil ?_; clear hne hu
                refine ⟨by kernel_rfl, ?_⟩
                clear HC1
                go_wp2_with fail
                go_ret
                clear s1
                exact ⟨false, rfl, ⟨(fun h => by cases h), fun r => absurd (r.top H0.out) (by have := HN.out; have := HT.out; omega)⟩, HB1.out⟩
end Go.Proofs.YtoicnghjjgkebaaGreatDoor
namespace Go.Proofs.YtoicnghjjgkebaaGreatDoor
open Go.RowKit

def RgN (w : World) (m ex : Int) (e : Ending) (w' : World) : Prop := ∃ b : Bool, e = .returned (.bool b) ∧ (b = true ↔ RightN m ex) ∧ Below w.heap.size w w'
theorem sizeAny_c (m : Int) (h1 : -9223372036854775808 ≤ m) (h2 : m ≤ 9223372036854775807) (w : World) :
    Calls Tryz.prog 172 #[.int .i64 m] w fun e w' => e = .returned (.int .u64 m.natAbs) ∧ w = w' := by
  by_cases h : m < 0
  · go_enter Tryz.func172, Tryz.ntmps172
    go_wp2
    go_ret
    refine ⟨ret_u64 ?_, rfl⟩
    simp only [IntKind.wrap, IntKind.signed, IntKind.bits, Bool.false_and, Bool.false_eq_true, if_false]
    omega
  · go_enter Tryz.func172, Tryz.ntmps172
    go_wp2
    go_ret
    refine ⟨ret_u64 ?_, rfl⟩
    first | omega | (unfold IntKind.wrap; simp; omega)
theorem belowN {w w1 : World} (h : Below w.heap.size w w1) (n : Nat) : Below w.heap.size w (w1.drewN n) := h.trans ⟨rfl, rfl, rfl, Nat.le_refl _, fun _ _ => rfl⟩
set_option maxRecDepth 100000 in
set_option maxHeartbeats 4000000 in
theorem nright_c (m e : Int) (h1 : -9223372036854775808 ≤ m) (h2 : m ≤ 9223372036854775807) (h3 : -9223372036854775808 ≤ e) (h4 : e ≤ 9223372036854775807) (w : World) : Calls Tryz.prog 112 #[.agg #[.int .i64 m, .int .i64 e]] w (RgN w m e) := by
  have HB := Lib.hid ((Below.refl _ w).alloc (Nat.le_refl _) (.cells #[.int .i64 m, .int .i64 e] 31))
  by_cases h : RightN m e
  · exact (right_c m e h w).mono fun x w' ⟨hx, n, hw⟩ => ⟨true, hx, ⟨fun _ => h, fun _ => rfl⟩, by subst hw; exact belowN HB.out n⟩
  · have HN := Lib.hid h
    by_cases h0 : m = 0
    · subst h0
      have h5 : ¬ e = 0 := fun h5 => h (by subst h5; exact ⟨fun _ => rfl, by omega, by omega, fun h => absurd rfl h, by omega, fun h => absurd rfl h⟩)
      have h6 : (e == 0) = false := by simpa using h5
      clear h h5
      go_enter Tryz.func112, Tryz.ntmps112
      go_wp2_with fail
      go_ret
      exact ⟨false, rfl, ⟨(fun h => by cases h), fun r => absurd r HN.out⟩, HB.out⟩
    · have hb1 : (m == 0) = false := by simpa using h0
      by_cases c1 : m.natAbs < 1000000000000000
      · have hx : decide ((1000000000000000 : Int) ≤ (m.natAbs : Int)) = false := by rw [decide_eq_false_iff_not]; omega
        by_cases c2 : m.natAbs % 10 = 0
        · have hmod : (((m.natAbs : Int) % 10) == 0) = true := by rw [beq_iff_eq]; omega
          clear h c2
          go_enter Tryz.func112, Tryz.ntmps112
          go_wp2_with (go_at_call 172; refine (sizeAny_c _ h1 h2 _).mono ?_; rintro e w' ⟨rfl, rfl⟩)
          go_ret
          exact ⟨false, rfl, ⟨(fun h => by cases h), fun r => absurd r HN.out⟩, HB.out⟩
        · have hmod : (((m.natAbs : Int) % 10) == 0) = false := by rw [beq_eq_false_iff_ne]; omega
          by_cases c3 : e < -40
          · have he1 : decide (e < -40) = true := decide_eq_true c3
            clear h c2 c3
            go_enter Tryz.func112, Tryz.ntmps112
            go_wp2_with (go_at_call 172; refine (sizeAny_c _ h1 h2 _).mono ?_; rintro e w' ⟨rfl, rfl⟩)
            go_ret
            exact ⟨false, rfl, ⟨(fun h => by cases h), fun r => absurd r HN.out⟩, HB.out⟩
          · have he1 : decide (e < -40) = false := decide_eq_false c3
            by_cases c4 : 40 ≤ e
            · have he2 : decide (40 ≤ e) = true := decide_eq_true c4
              clear h c2 c3 c4
              go_enter Tryz.func112, Tryz.ntmps112
              go_wp2_with (go_at_call 172; refine (sizeAny_c _ h1 h2 _).mono ?_; rintro e w' ⟨rfl, rfl⟩)
              go_ret
              exact ⟨false, rfl, ⟨(fun h => by cases h), fun r => absurd r HN.out⟩, HB.out⟩
            · have he2 : decide (40 ≤ e) = false := decide_eq_false c4
              have nx := ndig_le m.natAbs
              have he3 : (-40 : Int) ≤ e := by omega
              have he4 : e ≤ 40 := by omega
              have hle : decide ((ndig m.natAbs : Int) + e ≤ 40) = false := decide_eq_false (fun ht => h ⟨fun e => absurd e h0, by omega, by omega, fun _ => by omega, he3, fun _ => ht⟩)
              clear h c2 c3 c4
              go_enter Tryz.func112, Tryz.ntmps112
              go_wp2_with (go_at_call 172; refine (sizeAny_c _ h1 h2 _).mono ?_; rintro e w' ⟨rfl, rfl⟩)
              go_quiet ((go_at_call 173; exact Calls.quiet_ws (count_c _ (by omega) _)))
              go_wp2
              go_ret
              exact ⟨false, rfl, ⟨(fun h => by cases h), fun r => absurd r HN.out⟩, belowN HB.out _⟩
      · have hx : decide ((1000000000000000 : Int) ≤ (m.natAbs : Int)) = true := decide_eq_true (by omega)
        clear h c1
        go_enter Tryz.func112, Tryz.ntmps112
        go_wp2_with (go_at_call 172; refine (sizeAny_c _ h1 h2 _).mono ?_; rintro e w' ⟨rfl, rfl⟩)
        go_ret
        exact ⟨false, rfl, ⟨(fun h => by cases h), fun r => absurd r HN.out⟩, HB.out⟩

/-- A right value. -/
structure RightV (x : Val) : Prop where
  lo : 0 ≤ x.kind
  hi : x.kind ≤ 4
  num : x.kind = 1 → RightN x.mant x.exp
  nonum : x.kind ≠ 1 → x.mant = 0 ∧ x.exp = 0
  text : x.kind = 2 → x.text.size ≤ 255
  notext : x.kind ≠ 2 → x.text = ⟨#[]⟩
  truth : x.kind ≠ 3 → x.truth = false
  fault : x.kind = 4 → 1 ≤ x.fault ∧ x.fault ≤ 9
  nofault : x.kind ≠ 4 → x.fault = 0
def veq (x y : Val) : Bool := x.kind == y.kind && (x.mant == y.mant && x.exp == y.exp) && x.text == y.text && x.truth == y.truth && x.fault == y.fault
theorem veq_true {x y : Val} : veq x y = true ↔ x = y := by
  obtain ⟨a, b, c, d, e, f⟩ := x
  obtain ⟨a', b', c', d', e', f'⟩ := y
  simp only [veq, Bool.and_eq_true, beq_iff_eq, Go.MapKept.bytes_beq, Val.mk.injEq]
  constructor
  · rintro ⟨⟨⟨⟨h1, h2, h3⟩, h4⟩, h5⟩, h6⟩; exact ⟨h1, h2, h3, h4, h5, h6⟩
  · rintro ⟨h1, h2, h3, h4, h5, h6⟩; exact ⟨⟨⟨⟨h1, h2, h3⟩, h4⟩, h5⟩, h6⟩
def badV (f : Int) : Val := ⟨4, 0, 0, ⟨#[]⟩, false, if 1 ≤ f ∧ f ≤ 9 then f else 9⟩
theorem rightV_kind0 {m e : Int} {t : ByteArray} {b : Bool} {f : Int} : veq ⟨0, m, e, t, b, f⟩ ⟨0, 0, 0, ⟨#[]⟩, false, 0⟩ = true ↔ RightV ⟨0, m, e, t, b, f⟩ := by
  rw [veq_true]
  constructor
  · intro h; cases h; exact ⟨by simp, by simp, (fun h => by cases h), fun _ => ⟨rfl, rfl⟩, (fun h => by cases h), fun _ => rfl, fun _ => rfl, (fun h => by cases h), fun _ => rfl⟩
  · intro h
    obtain ⟨h1, h2⟩ := h.nonum (by simp)
    have h3 := h.notext (by simp); have h4 := h.truth (by simp); have h5 := h.nofault (by simp)
    simp only at h1 h2 h3 h4 h5
    subst h1; subst h2; subst h3; subst h4; subst h5; rfl
theorem rightV_kind1 {m e : Int} {t : ByteArray} {b : Bool} {f : Int} : (RightN m e ∧ veq ⟨1, m, e, t, b, f⟩ ⟨1, m, e, ⟨#[]⟩, false, 0⟩ = true) ↔ RightV ⟨1, m, e, t, b, f⟩ := by
  rw [veq_true]
  constructor
  · rintro ⟨hn, h⟩; cases h; exact ⟨by simp, by simp, fun _ => hn, fun h => absurd rfl h, (fun h => by cases h), fun _ => rfl, fun _ => rfl, (fun h => by cases h), fun _ => rfl⟩
  · intro h
    have h3 := h.notext (by simp); have h4 := h.truth (by simp); have h5 := h.nofault (by simp)
    simp only at h3 h4 h5
    subst h3; subst h4; subst h5
    exact ⟨h.num rfl, rfl⟩
theorem rightV_kind2 {m e : Int} {t : ByteArray} {b : Bool} {f : Int} : veq ⟨2, m, e, t, b, f⟩ (if t.size ≤ 255 then ⟨2, 0, 0, t, false, 0⟩ else badV 2) = true ↔ RightV ⟨2, m, e, t, b, f⟩ := by
  rw [veq_true]
  constructor
  · intro h
    split at h
    · rename_i ht
      cases h; exact ⟨by simp, by simp, (fun h => by cases h), fun _ => ⟨rfl, rfl⟩, fun _ => ht, fun h => absurd rfl h, fun _ => rfl, (fun h => by cases h), fun _ => rfl⟩
    · cases h
  · intro h
    obtain ⟨h1, h2⟩ := h.nonum (by simp)
    have h4 := h.truth (by simp); have h5 := h.nofault (by simp)
    simp only at h1 h2 h4 h5
    subst h1; subst h2; subst h4; subst h5
    rw [if_pos (h.text rfl)]
theorem rightV_kind3 {m e : Int} {t : ByteArray} {b : Bool} {f : Int} : veq ⟨3, m, e, t, b, f⟩ ⟨3, 0, 0, ⟨#[]⟩, b, 0⟩ = true ↔ RightV ⟨3, m, e, t, b, f⟩ := by
  rw [veq_true]
  constructor
  · intro h; cases h; exact ⟨by simp, by simp, (fun h => by cases h), fun _ => ⟨rfl, rfl⟩, (fun h => by cases h), fun _ => rfl, fun h => absurd rfl h, (fun h => by cases h), fun _ => rfl⟩
  · intro h
    obtain ⟨h1, h2⟩ := h.nonum (by simp)
    have h3 := h.notext (by simp); have h5 := h.nofault (by simp)
    simp only at h1 h2 h3 h5
    subst h1; subst h2; subst h3; subst h5; rfl
theorem rightV_kind4 {m e : Int} {t : ByteArray} {b : Bool} {f : Int} : veq ⟨4, m, e, t, b, f⟩ (badV f) = true ↔ RightV ⟨4, m, e, t, b, f⟩ := by
  rw [veq_true]
  constructor
  · intro h
    unfold badV at h
    split at h
    · rename_i hf
      cases h; exact ⟨by simp, by simp, (fun h => by cases h), fun _ => ⟨rfl, rfl⟩, (fun h => by cases h), fun _ => rfl, fun _ => rfl, fun _ => hf, fun h => absurd rfl h⟩
    · cases h; rename_i hf; exact absurd (by decide) hf
  · intro h
    obtain ⟨h1, h2⟩ := h.nonum (by simp)
    have h3 := h.notext (by simp); have h4 := h.truth (by simp)
    simp only at h1 h2 h3 h4
    subst h1; subst h2; subst h3; subst h4
    unfold badV
    rw [if_pos (h.fault rfl)]
theorem rightV_other {k m e : Int} {t : ByteArray} {b : Bool} {f : Int} (k0 : ¬k = 0) (k1 : ¬k = 1) (k2 : ¬k = 2) (k3 : ¬k = 3) (k4 : ¬k = 4) : ¬ RightV ⟨k, m, e, t, b, f⟩ := fun h => by
  have := h.lo; have := h.hi; simp only at *; omega

theorem Tryz.stood33 : Tryz.prog.stoodInHeld 33 = false := by kernel_rfl
theorem Tryz.guard33 : Tryz.prog.eqGuardType Tryz.prog.depth 33 = false := by kernel_rfl
theorem Tryz.stood31 : Tryz.prog.stoodInHeld 31 = false := by kernel_rfl
theorem Tryz.fields31 : Tryz.prog.fieldsOf 31 = #[{ name := "Mant", type := 3, offset := 0, embedded := false, tag := "", pkgPath := "", byteOffset := 0 }, { name := "Exp", type := 3, offset := 1, embedded := false, tag := "", pkgPath := "", byteOffset := 8 }] := by kernel_rfl
theorem Tryz.fields33 : Tryz.prog.fieldsOf 33 = #[{ name := "Kind", type := 3, offset := 0, embedded := false, tag := "", pkgPath := "", byteOffset := 0 }, { name := "Num", type := 31, offset := 1, embedded := false, tag := "", pkgPath := "", byteOffset := 8 }, { name := "Text", type := 9, offset := 3, embedded := false, tag := "", pkgPath := "", byteOffset := 24 }, { name := "Truth", type := 4, offset := 4, embedded := false, tag := "", pkgPath := "", byteOffset := 40 }, { name := "Fault", type := 3, offset := 5, embedded := false, tag := "", pkgPath := "", byteOffset := 48 }] := by kernel_rfl
theorem Tryz.equal31 (a b c d : Int) (w : World) (n : Nat) : (Op.equalIn (n + 2) 31 (.agg #[.int .i64 a, .int .i64 b]) (.agg #[.int .i64 c, .int .i64 d])).run Tryz.prog w = .ok (a == c && b == d) w := by
  rw [run_equalIn_struct w (n+1) 31 _ _ (by rw [Tryz.fields31]; exact Tryz.underlying31) Tryz.stood31, Tryz.fields31]
  by_cases h1 : a = c
  · by_cases h2 : b = d
    · simp [Op.eqFields, part, isAgg, go_sem, Tryz.underlying3, h1, h2]
    · simp [Op.eqFields, part, isAgg, go_sem, Tryz.underlying3, h1, h2]
  · simp [Op.eqFields, part, isAgg, go_sem, Tryz.underlying3, h1]
set_option maxRecDepth 100000 in
set_option maxHeartbeats 8000000 in
theorem Tryz.equal33 (a b c f a' b' c' f' : Int) (t t' : ByteArray) (q q' : Bool) (w : World) (n : Nat) : (Op.equalIn (n + 3) 33 (.agg #[.int .i64 a, .int .i64 b, .int .i64 c, .string t, .bool q, .int .i64 f]) (.agg #[.int .i64 a', .int .i64 b', .int .i64 c', .string t', .bool q', .int .i64 f'])).run Tryz.prog w = .ok (veq ⟨a, b, c, t, q, f⟩ ⟨a', b', c', t', q', f'⟩) w := by
  rw [run_equalIn_struct w (n+2) 33 _ _ (by rw [Tryz.fields33]; exact Tryz.underlying33) Tryz.stood33, Tryz.fields33]
  unfold veq
  have key : t.toList = t'.toList ↔ (t == t') = true := by rw [beq_toListBytes]; simp
  cases h1 : (a == a') <;> cases h2 : (b == b' && c == c') <;> cases h3 : (t == t') <;> cases h4 : (q == q') <;> cases h5 : (f == f') <;>
    simp [Op.eqFields, part, isAgg, go_sem, Tryz.underlying3, Tryz.underlying4, Tryz.underlying9, Tryz.equal31, key, h1, h2, h3, h4, h5]
@[go_sem ↓] theorem Tryz.eql33 (a b c f a' b' c' f' : Int) (t t' : ByteArray) (q q' : Bool) (w : World) : (binOp .eql 33 (.agg #[.int .i64 a, .int .i64 b, .int .i64 c, .string t, .bool q, .int .i64 f]) (.agg #[.int .i64 a', .int .i64 b', .int .i64 c', .string t', .bool q', .int .i64 f'])).run Tryz.prog w = .ok (.bool (veq ⟨a, b, c, t, q, f⟩ ⟨a', b', c', t', q', f'⟩)) w := by
  rw [run_eql_struct, Tryz.equal33]; rfl
@[go_sem ↓] theorem Tryz.neq33 (a b c f a' b' c' f' : Int) (t t' : ByteArray) (q q' : Bool) (w : World) : (binOp .neq 33 (.agg #[.int .i64 a, .int .i64 b, .int .i64 c, .string t, .bool q, .int .i64 f]) (.agg #[.int .i64 a', .int .i64 b', .int .i64 c', .string t', .bool q', .int .i64 f'])).run Tryz.prog w = .ok (.bool (!(veq ⟨a, b, c, t, q, f⟩ ⟨a', b', c', t', q', f'⟩))) w := by
  rw [run_neq_struct, Tryz.equal33]; rfl
@[go_sem ↓] theorem Tryz.eqg33 (op : BinOp) (x y : Operand) (xs ys : Array Value) (w : World) : (eqGuard op 33 x y (.agg xs) (.agg ys)).run Tryz.prog w = .ok () w := run_eqGuard_agg w op 33 x y xs ys Tryz.guard33

end Go.Proofs.YtoicnghjjgkebaaGreatDoor
