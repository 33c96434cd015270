/-
  (*Shared).order's closure: one step. Condition: the shared axis and the boxes lie in memory.
-/
import Derived.Test.YtgmlhpkhecbkoaaS7
import Derived.Test.YtgmlhpkhecbkoaaN4
namespace Go.Proofs.Ytgmlhpkhecbkoaa
open Go.RowKit

def walkv (B1 B3 B4 : Nat) : Value := .func (.func 87) #[] #[.pointer (some ⟨B1, 0, none⟩), .pointer (some ⟨B3, 0, none⟩), .pointer (some ⟨B4, 0, none⟩)]
/-- What order holds: the list so far, its box, the box of the function. -/
structure OS (t u B1 B3 B4 q : Nat) (first : List Id) (puts cuts : List (Id × Id)) (l : List Id) (own : Tags) (vl : Value) (W : World) : Prop where
  b1 : Blk W B1 39 #[.pointer (some ⟨q, 0, none⟩)]
  b3 : Blk W B3 22 #[vl]
  t3 : own B3 = u
  b4 : Blk W B4 124 #[walkv B1 B3 B4]
  row : Row W own u 24 2 vl l.length (idCells l)
  sh : ShAt W own t q first puts cuts
section
variable {W W' : World} {own : Tags} {t u B1 B3 B4 q : Nat} {first : List Id} {puts cuts : List (Id × Id)} {l l' : List Id} {vl : Value}
theorem OS.next (h : OS t u B1 B3 B4 q first puts cuts l own vl W) (k : Below W.heap.size W W') : OS t u B1 B3 B4 q first puts cuts l own vl W' :=
  ⟨h.b1.kept (k.block B1 h.b1.lt), h.b3.kept (k.block B3 h.b3.lt), h.t3, h.b4.kept (k.block B4 h.b4.lt), h.row.keep (Same.below k), h.sh.next k⟩
/-- One id more, appended and stored. -/
theorem OS.add {g c : Nat} (h : OS t u B1 B3 B4 q first puts cuts l own vl W) (htu : t ≠ u) (hg : W.grownBy W' vl.ownBlock) (hr : W'.ownsRow 0 24 2 (.slice (some ⟨g, 0, none⟩) l'.length c) l'.length (idCells l')) (hat : vl.ownBlock = some g ∨ (W.heap.size ≤ g ∧ g < W'.heap.size)) :
    Blk W' B3 22 #[vl] ∧ ∃ own', Tr own u W own' (W'.setCell ⟨B3, 0, none⟩ (.slice (some ⟨g, 0, none⟩) l'.length c)) ∧ OS t u B1 B3 B4 q first puts cuts l' own' (.slice (some ⟨g, 0, none⟩) l'.length c) (W'.setCell ⟨B3, 0, none⟩ (.slice (some ⟨g, 0, none⟩) l'.length c)) := by
  obtain ⟨own1, tr1, hs, r1⟩ := h.row.app2 (Tr.refl own u W) hg hr hat
  have b3 := h.b3.beside h.row hg (by decide)
  have b1 := h.b1.beside h.row hg (by decide)
  have b4 := h.b4.beside h.row hg (by decide)
  have t3 : own1 B3 = u := by rw [hs B3 h.b3.lt]; exact h.t3
  have st : Tr own u W own1 (W'.setCell ⟨B3, 0, none⟩ (.slice (some ⟨g, 0, none⟩) l'.length c)) := tr1.setCell (.inl t3) _
  refine ⟨b3, own1, st, b1.far (b1.ne_type b3 (by decide)) _, ?_, t3, b4.far (b4.ne_type b3 (by decide)) _, r1.stored _ (fun _ _ h _ => h.ne_type b3 (by decide)), h.sh.other st htu⟩
  have := b3.store 0 (.slice (some ⟨g, 0, none⟩) l'.length c)
  simpa using this
end
def WalkC (t u B1 B3 B4 q : Nat) (first : List Id) (puts cuts : List (Id × Id)) (z : Id) (d : List Id) : Prop :=
  ∀ (l : List Id) (vl : Value) (own : Tags) (W : World), OS t u B1 B3 B4 q first puts cuts l own vl W → l.length + d.length ≤ 100000 →
    Calls Try.prog 87 #[.agg #[.int .i64 z.1, .int .i64 z.2], .pointer (some ⟨B1, 0, none⟩), .pointer (some ⟨B3, 0, none⟩), .pointer (some ⟨B4, 0, none⟩)] W fun e W' => e = .returned (.tuple #[]) ∧ ∃ own' vl', Tr own u W own' W' ∧ OS t u B1 B3 B4 q first puts cuts (l ++ d) own' vl' W'
def flat (D : Id → List Id) (K : List Id) : List Id := K.flatMap fun c => c :: D c
theorem flat_take (D : Id → List Id) (K : List Id) (k : Nat) (c : Id) (h : K[k]? = some c) : flat D (K.take (k + 1)) = flat D (K.take k) ++ (c :: D c) := by
  obtain ⟨h1, h2⟩ := List.getElem?_eq_some_iff.1 h
  unfold flat
  rw [List.take_succ_eq_append_getElem h1, List.flatMap_append, h2]
  simp
theorem flat_le (D : Id → List Id) (K : List Id) (k : Nat) : (flat D (K.take k)).length ≤ (flat D K).length := by
  unfold flat
  conv => rhs; rw [← List.take_append_drop k K, List.flatMap_append, List.length_append]
  omega

theorem lies_two {v : Value} {g n c H M : Nat} (hat : (Value.slice (some ⟨g, 0, none⟩) n c).ownBlock = v.ownBlock ∨ (Value.slice (some ⟨g, 0, none⟩) n c).ownBlock = some H) (hlt : g < M) : v.ownBlock = some g ∨ (H ≤ g ∧ g < M) := by
  rcases hat with h | h
  · exact .inl (h.symm.trans rfl)
  · right
    have : g = H := by simpa [Value.ownBlock] using h
    omega
theorem ShAt.hang {W : World} {own : Tags} {t q : Nat} {first : List Id} {puts cuts : List (Id × Id)} (h : ShAt W own t q first puts cuts) (z : Id) : ∃ s, W.cell? ⟨q, 2, none⟩ = some (.map (some s)) ∧ ∃ A c, (∀ (o : Obj) (nq : Nat), (Instr.lookup 97 (.map (some s)) (.agg #[.int .i64 z.1, .int .i64 z.2]) false).run Try.prog ((W.alloc o).drewN nq) = .ok (.slice A (kids puts z).length c) ((W.alloc o).drewN nq)) ∧ Row W own t 24 2 (.slice A (kids puts z).length c) (kids puts z).length (idCells (kids puts z)) := by
  obtain ⟨_, _, vF, s, hh, vD, b, hl, a⟩ := h
  have hrow := a.hang z
  obtain ⟨A, c, hv, _⟩ := hrow.form
  refine ⟨hh, a.blk.cell 2, A, c, fun o nq => ?_, by rw [← hv]; exact hrow⟩
  have := MapIs.look (w := (W.alloc o).drewN nq) (a.mH.kept (Below.heap_alloc W o hh a.mH.lt)) Try.underlying97 (zero22 _) z false
  simp only [idv, Bool.false_eq_true, if_false, hv] at this
  exact this

set_option maxRecDepth 100000 in
set_option maxHeartbeats 4000000 in
theorem walk_step (t u B1 B3 B4 q : Nat) (first : List Id) (puts cuts : List (Id × Id)) (z : Id) (D : Id → List Id) (htu : t ≠ u)
    (IH : ∀ c ∈ kids puts z, WalkC t u B1 B3 B4 q first puts cuts c (D c)) : WalkC t u B1 B3 B4 q first puts cuts z (flat D (kids puts z)) := by
  intro l vl own W h hlen
  obtain ⟨z1, z2⟩ := z
  obtain ⟨s, c2, A, c, hlk, hrow⟩ := h.sh.hang (z1, z2)
  dsimp only at hlk
  have hKl : (kids puts (z1, z2)).length ≤ 1000 := by have := kids_le puts (z1, z2); have := h.sh.wf.len; omega
  have HI := Lib.hid IH
  have Htu := Lib.hid htu
  obtain ⟨K, hK⟩ : ∃ K, kids puts (z1, z2) = K := ⟨_, rfl⟩
  rw [hK] at HI hlk hrow hlen hKl
  have HK := Lib.hid hK
  have cb := h.b1.cell 0
  have hB1 := h.b1.lt
  have hq := World.block_lt_of_cell? W _ c2
  simp only [List.getElem?_toArray, List.getElem?_cons_zero] at cb
  have bl : Below W.heap.size W (W.alloc (.cells #[.int .i64 z1, .int .i64 z2] 24)) := (Below.refl _ _).alloc (Nat.le_refl _) _
  have S0 := Lib.hid (h.next bl)
  have R0 := Lib.hid (hrow.keep (Same.below bl))
  clear IH htu hK h hrow
  go_enter Try.func87, Try.ntmps87
  go_wp2_with fail
  go_quiet (fail)
  have T1 := Lib.hid (((Tr.refl own u W).below bl).drewN nq)
  have R1 := Lib.hid (R0.out.keep (Same.drewN nq))
  clear bl
  have S1 := Lib.hid (S0.out.next (W' := (W.alloc (.cells #[.int .i64 z1, .int .i64 z2] 24)).drewN nq) ⟨rfl, rfl, rfl, Nat.le_refl _, fun _ _ => rfl⟩)
  clear S0 R0 hlk c2 cb hB1 hq
  generalize (W.alloc (.cells #[.int .i64 z1, .int .i64 z2] 24)).drewN nq = W1 at *
  go_wp2_with fail
  go_loopw [14] (fun i wr => ∃ (k : Nat) (ow : Tags) (vl : Value), k ≤ K.length ∧ i = .int .i64 k ∧ Tr own u W1 ow wr ∧ OS t u B1 B3 B4 q first puts cuts (l ++ flat D (K.take k)) ow vl wr) (fun i _ => K.length - (intOf i).toNat)
  case atStart => exact ⟨0, own, vl, Nat.zero_le _, rfl, Tr.refl _ _ _, by simpa [flat] using S1.out⟩
  case round =>
    clear S1
    obtain ⟨k, ow, vl1, hk, rfl, tr1, r⟩ := hrel
    by_cases hlt : k < K.length
    · have hrow := R1.out.keep (tr1.toSame Htu.out)
      obtain ⟨bK, oK, hA, _, hbK, hc⟩ := hrow.toIdsR.2 (fun e => by rw [e] at hlt; simp at hlt)
      subst hA
      obtain ⟨g1, g2⟩ := hc k hlt
      have hcm := Lib.hid (HI.out K[k] (List.getElem_mem hlt))
      have hft := Lib.hid (flat_take D K k K[k] (List.getElem?_eq_getElem hlt))
      have hfl := Lib.hid (flat_le D K (k + 1))
      clear hc hrow
      generalize K[k] = y at *
      obtain ⟨y1, y2⟩ := y
      dsimp only at g1 g2
      have hk0 : (0 : Int) ≤ (k : Int) := by omega
      have hkn : (k : Int) < (K.length : Int) := by omega
      obtain ⟨AV, cV, rfl, _⟩ := r.row.form
      have hll : Hid ((l ++ flat D (K.take k)).length < 100000) := by
        have h1 := hfl.out
        rw [hft.out] at h1
        simp at h1
        show _ < _
        simp
        omega
      have c3 := r.b3.cell 0
      simp only [List.getElem?_toArray, List.getElem?_cons_zero] at c3
      have hB3 := r.b3.lt
      have bl2 : Below wr.heap.size wr ((wr.alloc (.cells #[.int .i64 y1, .int .i64 y2] 24)).alloc (.cells #[.int .i64 y1, .int .i64 y2] 24)) := ((Below.refl _ _).alloc (Nat.le_refl _) _).alloc (by simp) _
      have R2 := Lib.hid (r.next bl2)
      have T2 := Lib.hid (tr1.below bl2)
      have X2 := Lib.hid ((Blk.new wr 24 #[.int .i64 y1, .int .i64 y2]).alloc (.cells #[.int .i64 y1, .int .i64 y2] 24))
      obtain ⟨i0, hi, hz0, hz1, hz2⟩ := info_parts Try.info24
      obtain ⟨LL, hLL⟩ : ∃ LL, l ++ flat D (K.take k) = LL := ⟨_, rfl⟩
      rw [hLL] at R2 hll c3
      have HLL := Lib.hid hLL
      have hvo : Hid ((Value.slice AV LL.length cV).ownBlock ≠ some wr.heap.size) := by
        intro e
        rw [hLL] at r
        have := (r.row.1.lt _ e).2
        omega
      clear r bl2 tr1 hLL
      go_wp2_with (at_builtin; refine wpList_append_own_at _ rfl _ _ _ rfl 0 24 i0 _ 2 16 Try.underlying22 hi hz0 hz1 hz2 rfl (by omega) _ _ _ rfl R2.out.row.1 ⟨wr.heap.size + 1, 0, none⟩ 1 1 [.int .i64 y1, .int .i64 y2] rfl rfl (by have := news_new (wr.alloc (.cells #[.int .i64 y1, .int .i64 y2] 24)) (wr.heap.size + 1) (by simp) #[.int .i64 y1, .int .i64 y2] 24; exact this) (by simp [Value.oneCell']) (by have := hll.out; simp only [maxLen]; omega) (by have := hll.out; omega) (Nat.zero_le _) ?_; intro v' w2 hown2 hgrow2 _ hat2; obtain ⟨gN, cN, rfl⟩ := ownsRow_slice hown2 (by omega); obtain ⟨b3', ow2, tr2, o2⟩ := R2.out.add (l' := LL ++ [(y1, y2)]) (g := gN) (c := cN) Htu.out hgrow2 (by rw [List.length_append, List.length_singleton]; simpa [idCells_append, idCells] using hown2) (lies_two hat2 (hown2.lt gN rfl).2); rw [List.length_append, List.length_singleton] at tr2 o2; have f3 := b3'.frozen 0; have d3 := b3'.cell 0; simp only [List.getElem?_toArray, List.getElem?_cons_zero] at d3; have x2 := (X2.out.kept (hgrow2.block wr.heap.size X2.out.lt (fun e => hvo.out e.symm))).far (p := ⟨B3, 0, none⟩) (X2.out.ne_type R2.out.b3 (by decide)) (.slice (some ⟨gN, 0, none⟩) (LL.length + 1) cN); have x20 := x2.cell 0; have x21 := x2.cell 1; have e4 := o2.b4.cell 0; unfold walkv at e4; simp only [List.getElem?_toArray, List.getElem?_cons_zero, List.getElem?_cons_succ] at x20 x21 e4; have O2 := Lib.hid o2; have TR2 := Lib.hid tr2; clear hown2 hgrow2 hat2 b3' tr2 o2 x2)
      generalize w2.setCell ⟨B3, 0, none⟩ (.slice (some ⟨gN, 0, none⟩) (LL.length + 1) cN) = V2 at *
      have hle2 : Hid ((LL ++ [(y1, y2)]).length + (D (y1, y2)).length ≤ 100000) := by
        have h1 := hfl.out
        rw [hft.out] at h1
        have h2 := HLL.out
        show _ ≤ _
        rw [← h2]
        simp at h1 ⊢
        omega
      refine (hcm.out (LL ++ [(y1, y2)]) _ ow2 V2 (by have := O2.out; rw [← List.length_singleton (a := (y1, y2)), ← List.length_append] at this; exact this) hle2.out).mono ?_
      rintro e w3 ⟨rfl, ow3, vl3, tr3, o3⟩
      have T3 := Lib.hid (T2.out.trans (TR2.out.trans tr3))
      have O3 := Lib.hid o3
      clear tr3 o3 x20 x21 e4 f3 d3
      go_wp2_with fail
      go_roundw
      case rel =>
        have fin : OS t u B1 B3 B4 q first puts cuts (l ++ flat D (K.take (k + 1))) ow3 vl3 w3 := by
          have := O3.out
          rw [← HLL.out] at this
          rw [hft.out]
          simpa using this
        first | exact ⟨k + 1, ow3, vl3, by omega, by go_num, T3.out, fin⟩ | exact ⟨k + 1, ow3, by omega, by go_num, T3.out, vl3, fin⟩ | exact ⟨k + 1, by omega, by go_num, ow3, T3.out, vl3, fin⟩
      case measure => simp [intOf]; omega
    · have hkk : k = K.length := by omega
      subst hkk
      have hkn : ¬ ((K.length : Int) < (K.length : Int)) := by omega
      have R := Lib.hid r
      have TT := Lib.hid (T1.out.trans tr1)
      clear r tr1
      go_wp2_with fail
      go_end0
      have fin : OS t u B1 B3 B4 q first puts cuts (l ++ flat D (kids puts (z1, z2))) ow vl1 wr := by have := R.out; rw [List.take_length] at this; rw [HK.out]; exact this
      first | exact ⟨rfl, ow, vl1, TT.out, fin⟩ | exact ⟨rfl, ow, TT.out, vl1, fin⟩
end Go.Proofs.Ytgmlhpkhecbkoaa
