/-
  SeqcGone: the plain law: with a deed gone the live ones are those of an axis in which it was never done. No condition beyond those said.
  counterpanelaw36.SeqcGone: its walk. Conditions: the arguments can be read.
  SeqcGoneSaid, proved: for every input the law returns true, and each argument reads afterwards as it read before. No condition.
-/
import Derived.Test.YtgmlhpkhecbkoaaWX
namespace Go.Proofs.Ytgmlhpkhecbkoaa

structure ActD where
  cut : Bool
  at' : Id
  id : Id
instance : Inhabited ActD := ⟨⟨false, (0, 0), (0, 0)⟩⟩
/-- The insertions behind one act. -/
def actP (F : List Id) (P : List (Id × Id)) (a : ActD) : List (Id × Id) := if a.cut then P else insPuts F P a.at' a.id
/-- The deletions behind one act. -/
def actC (F : List Id) (P C : List (Id × Id)) (a : ActD) : List (Id × Id) := if a.cut then cutCuts F P C a.at' a.id else C
/-- What is the same but for one deed. -/
def Less (d : Id) (x y : List (Id × Id)) : Prop := d ∉ y.map Prod.snd ∧ (x = y ∨ ∃ X Y b, x = X ++ (b, d) :: Y ∧ y = X ++ Y)
theorem Less.mem {d : Id} {x y : List (Id × Id)} (h : Less d x y) {p : Id × Id} (hp : p.2 ≠ d) : p ∈ x ↔ p ∈ y := by
  obtain ⟨_, rfl | ⟨X, Y, b, rfl, rfl⟩⟩ := h
  · rfl
  · simp only [List.mem_append, List.mem_cons]
    constructor
    · rintro (h | h | h)
      · exact .inl h
      · exact absurd (by rw [h]) hp
      · exact .inr h
    · rintro (h | h)
      · exact .inl h
      · exact .inr (.inr h)
theorem Less.snd {d : Id} {x y : List (Id × Id)} (h : Less d x y) {z : Id} (hz : z ≠ d) : z ∈ x.map Prod.snd ↔ z ∈ y.map Prod.snd := by
  simp only [List.mem_map]
  constructor
  · rintro ⟨p, hp, rfl⟩; exact ⟨p, (h.mem hz).1 hp, rfl⟩
  · rintro ⟨p, hp, rfl⟩; exact ⟨p, (h.mem hz).2 hp, rfl⟩
theorem Less.snoc {d : Id} {x y : List (Id × Id)} (h : Less d x y) {p : Id × Id} (hp : p.2 ≠ d) : Less d (x ++ [p]) (y ++ [p]) := by
  obtain ⟨h1, h2⟩ := h
  refine ⟨?_, ?_⟩
  · rw [List.map_append, List.mem_append]
    rintro (h | h)
    · exact h1 h
    · have e : d = p.2 := by simpa using h
      exact hp e.symm
  · rcases h2 with rfl | ⟨X, Y, b, rfl, rfl⟩
    · exact .inl rfl
    · exact .inr ⟨X, Y ++ [p], b, by simp, by simp⟩
theorem Less.add {d : Id} {x : List (Id × Id)} (h : d ∉ x.map Prod.snd) (b : Id) : Less d (x ++ [(b, d)]) x := ⟨h, .inr ⟨x, [], b, by simp, by simp⟩⟩
theorem Less.len {d : Id} {x y : List (Id × Id)} (h : Less d x y) : y.length ≤ x.length := by
  obtain ⟨_, rfl | ⟨X, Y, b, rfl, rfl⟩⟩ := h
  · exact Nat.le_refl _
  · simp
theorem Less.has {d : Id} {F : List Id} {x y : List (Id × Id)} (h : Less d x y) {z : Id} (hz : z ≠ d) : has F x z = has F y z := by
  have := h.snd hz
  unfold Proofs.Ytgmlhpkhecbkoaa.has
  rw [decide_eq_decide.2 this]
section
variable {F : List Id} {Pa Ca Pb Cb : List (Id × Id)} {d : Id} {a : ActD}
theorem Less.actP (h : Less d Pa Pb) (h1 : a.at' ≠ d) (h2 : a.id ≠ d) (hl : F.length + Pa.length < 1000) : Less d (actP F Pa a) (actP F Pb a) := by
  unfold Proofs.Ytgmlhpkhecbkoaa.actP
  split
  · exact h
  · have e : insS F Pa a.at' a.id = insS F Pb a.at' a.id := by
      have := h.len
      unfold insS
      rw [h.has h1, h.has h2, if_neg (show ¬ 1000 ≤ F.length + Pa.length by omega), if_neg (show ¬ 1000 ≤ F.length + Pb.length by omega)]
    unfold insPuts
    rw [e]
    split
    · exact h.snoc h2
    · exact h
theorem Less.actC (h : Less d Pa Pb) (k : Less d Ca Cb) (h1 : a.at' ≠ d) (h2 : a.id ≠ d) : Less d (actC F Pa Ca a) (actC F Pb Cb a) := by
  unfold Proofs.Ytgmlhpkhecbkoaa.actC
  split
  · have e : cutS F Pa Ca a.at' a.id = cutS F Pb Cb a.at' a.id := by
      have e2 : (a.id ∈ Ca.map Prod.snd) = (a.id ∈ Cb.map Prod.snd) := propext (k.snd h2)
      unfold cutS
      rw [h.has h1]
      simp only [e2]
    unfold cutCuts
    rw [e]
    split
    · exact k.snoc h2
    · exact k
  · exact k
theorem Less.first (h : d ∉ Pa.map Prod.snd) (ha : a.id = d) : Less d (Proofs.Ytgmlhpkhecbkoaa.actP F Pa a) Pa := by
  unfold Proofs.Ytgmlhpkhecbkoaa.actP
  split
  · exact ⟨h, .inl rfl⟩
  · unfold insPuts
    split
    · rw [ha]; exact Less.add h _
    · exact ⟨h, .inl rfl⟩
theorem Less.firstC (h : d ∉ Ca.map Prod.snd) (ha : a.id = d) : Less d (Proofs.Ytgmlhpkhecbkoaa.actC F Pa Ca a) Ca := by
  unfold Proofs.Ytgmlhpkhecbkoaa.actC
  split
  · unfold cutCuts
    split
    · rw [ha]; exact Less.add h _
    · exact ⟨h, .inl rfl⟩
  · exact ⟨h, .inl rfl⟩
/-- The law. -/
theorem gone_live (ha : Wf F Pa) (hb : Wf F Pb) (h : Less d Pa Pb) (k : Less d Ca Cb) (hd : d ∉ F) (hl : F.length + Pb.length < 1000) : (orderL F Pa).filter (liveB Pa Ca [d]) = (orderL F Pb).filter (liveB Pb Cb []) := by
  have live : ∀ z, z ≠ d → liveB Pa Ca [d] z = liveB Pb Cb [] z := fun z hz => by
    have e1 : z ∉ [d] := by simpa using hz
    unfold liveB
    rw [decide_eq_false e1, Bool.and_false, decide_eq_false (by simp : z ∉ ([] : List Id)), Bool.and_false]
    congr 1
    rw [decide_eq_decide]
    constructor
    · intro hh c hc hcz
      have hcd : c.2 ≠ d := fun e => k.1 (e ▸ List.mem_map_of_mem hc)
      have := hh c ((k.mem hcd).2 hc) hcz
      exact absurd (by simpa using this) hcd
    · intro hh c hc hcz
      by_cases hcd : c.2 = d
      · simp [hcd]
      · exact absurd (hh c ((k.mem hcd).1 hc) hcz) (by simp)
  have hdb : d ∉ orderL F Pb := fun hm => by
    rcases has_iff.1 (((order_facts hb).2.1 d).1 hm) with h' | h'
    · exact hd h'
    · exact h.1 h'
  have goalB : ((orderL F Pb).filter (liveB Pa Ca [d])) = (orderL F Pb).filter (liveB Pb Cb []) :=
    List.filter_congr fun z hz => live z (fun e => hdb (e ▸ hz))
  rcases h.2 with he | ⟨X, Y, b, e1, e2⟩
  · have goalB' := goalB
    rw [← goalB', he]
  · have hm : (b, d) ∈ Pa := by rw [e1]; simp
    have hin : insS F Pb b d = 0 := by
      have hd0 : d ≠ (0, 0) := fun e => ha.pnz (by rw [← e]; exact List.mem_map.2 ⟨(b, d), hm, rfl⟩)
      have hn : Proofs.Ytgmlhpkhecbkoaa.has F Pb d = false := by
        cases hh : Proofs.Ytgmlhpkhecbkoaa.has F Pb d with
        | false => rfl
        | true => exact absurd (((order_facts hb).2.1 d).2 hh) hdb
      have hbb : ¬ (b ≠ (0, 0) ∧ Proofs.Ytgmlhpkhecbkoaa.has F Pb b = false) := by
        rintro ⟨hb0, hb1⟩
        have := ha.beh X.length (b, d) (by rw [e1]; simp)
        rw [e1, List.take_left' rfl] at this
        have hx : Proofs.Ytgmlhpkhecbkoaa.has F Pb b = true := by
          rcases this with h' | h' | h'
          · exact absurd h' hb0
          · exact has_iff.2 (.inl h')
          · refine has_iff.2 (.inr ?_)
            rw [e2, List.map_append]
            exact List.mem_append.2 (.inl h')
        rw [hx] at hb1; cases hb1
      unfold insS
      rw [if_neg hd0, if_neg (by rw [hn]; decide), if_neg hbb, if_neg (by omega)]
    have hs : orderL F Pa = orderL F (Pb ++ [(b, d)]) := order_set ha (hb.snoc hin) (fun p => by
      rw [e1, e2]
      simp only [List.mem_append, List.mem_cons, List.not_mem_nil, or_false]
      constructor
      · rintro (h | h | h)
        · exact .inl (.inl h)
        · exact .inr h
        · exact .inl (.inr h)
      · rintro ((h | h) | h)
        · exact .inl h
        · exact .inr (.inr h)
        · exact .inr (.inl h))
    have hmore := order_more hb hin
    rw [hs, ← goalB, ← hmore, List.filter_filter]
    refine List.filter_congr fun z _ => ?_
    by_cases hz : z = d
    · subst hz
      have : liveB Pa Ca [z] z = false := by
        unfold liveB insB
        rw [decide_eq_true (List.mem_map.2 ⟨(b, z), hm, rfl⟩ : z ∈ Pa.map Prod.snd), decide_eq_true (by simp : z ∈ [z])]
        rfl
      rw [this]; rfl
    · simp [hz]
end
end Go.Proofs.Ytgmlhpkhecbkoaa
namespace Go.Proofs.Ytgmlhpkhecbkoaa
open Go.RowKit Go.Shelf

def actCells (a : ActD) : List Value := [.bool a.cut, .int .i64 a.at'.1, .int .i64 a.at'.2, .int .i64 a.id.1, .int .i64 a.id.2]
theorem ManyR.acts {w : World} {own : Tags} {t : Nat} {A : Option Addr} {l : List ActD} (h : ManyR actCells 5 w own t A l) (hl : l ≠ []) : ∃ b off, A = some ⟨b, off, none⟩ ∧ own b = t ∧ b < w.heap.size ∧ ∀ i (h : i < l.length), w.cell? ⟨b, off + i * 5, none⟩ = some (.bool l[i].cut) ∧ w.cell? ⟨b, off + i * 5 + 1, none⟩ = some (.int .i64 l[i].at'.1) ∧ w.cell? ⟨b, off + i * 5 + 2, none⟩ = some (.int .i64 l[i].at'.2) ∧ w.cell? ⟨b, off + i * 5 + 3, none⟩ = some (.int .i64 l[i].id.1) ∧ w.cell? ⟨b, off + i * 5 + 4, none⟩ = some (.int .i64 l[i].id.2) := by
  obtain ⟨b, off, hA, ho, hb, hc⟩ := h hl
  exact ⟨b, off, hA, ho, hb, fun i hi => ⟨hc i hi 0 _ rfl, hc i hi 1 _ rfl, hc i hi 2 _ rfl, hc i hi 3 _ rfl, hc i hi 4 _ rfl⟩⟩
/-- Nothing hangs on the deed, among the first j acts. -/
def ApartTo (ids0 : List Id) (ps : List ActD) (kk : Nat) (dd : Id) (j : Nat) : Prop := ∀ i, i < j → ∀ a, ps[i]? = some a → a.at' ≠ dd ∧ (i ≠ kk → a.id ≠ dd) ∧ a.id ∉ ids0
theorem ApartTo.step {ids0 : List Id} {ps : List ActD} {kk : Nat} {dd : Id} {j : Nat} {a : ActD} (h : ApartTo ids0 ps kk dd j) (hj : ps[j]? = some a) (h1 : a.at' ≠ dd) (h2 : j ≠ kk → a.id ≠ dd) (h3 : a.id ∉ ids0) : ApartTo ids0 ps kk dd (j + 1) := fun i hi b hb => by
  by_cases hij : i < j
  · exact h i hij b hb
  · have : i = j := by omega
    subst this
    have : b = a := Option.some.inj (hb.symm.trans hj)
    subst this
    exact ⟨h1, h2, h3⟩
structure Lens (Pa Ca Pb Cb : List (Id × Id)) (k : Nat) : Prop where
  a : Pa.length ≤ k
  c : Ca.length ≤ k
  b : Pb.length ≤ k
  d : Cb.length ≤ k
/-- How the two axes stand to each other behind k acts. -/
structure GR (dd : Id) (kk k : Nat) (Pa Ca Pb Cb : List (Id × Id)) : Prop where
  p : Less dd Pa Pb
  c : Less dd Ca Cb
  eq : k ≤ kk → Pa = Pb ∧ Ca = Cb
  lens : Lens Pa Ca Pb Cb k
theorem actP_len (F : List Id) (P : List (Id × Id)) (a : ActD) : (actP F P a).length ≤ P.length + 1 := by
  unfold actP insPuts
  split
  · omega
  · split
    · simp
    · omega
theorem actC_len (F : List Id) (P C : List (Id × Id)) (a : ActD) : (actC F P C a).length ≤ C.length + 1 := by
  unfold actC cutCuts
  split
  · split
    · simp
    · omega
  · omega
section
variable {FI : List Id} {dd : Id} {kk k : Nat} {Pa Ca Pb Cb : List (Id × Id)} {a : ActD}
theorem GR.step (h : GR dd kk k Pa Ca Pb Cb) (h1 : a.at' ≠ dd) (h2 : a.id ≠ dd) (hl : FI.length + k < 1000) : GR dd kk (k + 1) (actP FI Pa a) (actC FI Pa Ca a) (actP FI Pb a) (actC FI Pb Cb a) := by
  have l1 := actP_len FI Pa a
  have l2 := actC_len FI Pa Ca a
  have l3 := actP_len FI Pb a
  have l4 := actC_len FI Pb Cb a
  obtain ⟨m1, m2, m3, m4⟩ := h.lens
  refine ⟨h.p.actP h1 h2 (by omega), h.p.actC h.c h1 h2, fun hk' => ?_, ⟨by omega, by omega, by omega, by omega⟩⟩
  obtain ⟨e1, e2⟩ := h.eq (by omega)
  rw [e1, e2]
  exact ⟨rfl, rfl⟩
theorem GR.mid (h : GR dd kk kk Pa Ca Pb Cb) (ha : a.id = dd) : GR dd kk (kk + 1) (actP FI Pa a) (actC FI Pa Ca a) Pb Cb := by
  have l1 := actP_len FI Pa a
  have l2 := actC_len FI Pa Ca a
  obtain ⟨m1, m2, m3, m4⟩ := h.lens
  obtain ⟨e1, e2⟩ := h.eq (Nat.le_refl _)
  refine ⟨?_, ?_, fun hk' => by omega, ⟨by omega, by omega, by omega, by omega⟩⟩
  · rw [e1]; exact Less.first h.p.1 ha
  · rw [e2]; exact Less.firstC h.c.1 ha
end
/-- What SeqcGone holds in its second loop. -/
structure GS (w : World) (qa qb : Nat) (FI : List Id) (ps : List ActD) (D : Option Addr) (Bd : Nat) (d1 d2 : Int) (Pa Ca Pb Cb : List (Id × Id)) (ow : Tags) (wr : World) : Prop where
  clean : Clean w ow wr
  a : ShAt wr ow 1 qa FI Pa Ca
  b : ShAt wr ow 2 qb FI Pb Cb
  d : ManyR actCells 5 wr ow 0 D ps
  bd : Box wr ow Bd 24 #[.int .i64 d1, .int .i64 d2]
section
variable {w wr wr' : World} {qa qb : Nat} {FI : List Id} {ps : List ActD} {D : Option Addr} {Bd : Nat} {d1 d2 : Int} {Pa Ca Pb Cb P' C' : List (Id × Id)} {ow ow' : Tags}
theorem GS.next (h : GS w qa qb FI ps D Bd d1 d2 Pa Ca Pb Cb ow wr) (k : Below wr.heap.size wr wr') : GS w qa qb FI ps D Bd d1 d2 Pa Ca Pb Cb ow wr' :=
  ⟨h.clean.next k, h.a.next k, h.b.next k, h.d.keep k.size (Same.below k), h.bd.next k⟩
theorem GS.actA (h : GS w qa qb FI ps D Bd d1 d2 Pa Ca Pb Cb ow wr) (k : Tr ow 1 wr ow' wr') (s : ShAt wr' ow' 1 qa FI P' C') : GS w qa qb FI ps D Bd d1 d2 P' C' Pb Cb ow' wr' :=
  ⟨h.clean.tr k (by decide), s, h.b.other k (by decide), h.d.keep k.size (k.toSame (by decide)), h.bd.tr k (by decide)⟩
theorem GS.actB (h : GS w qa qb FI ps D Bd d1 d2 Pa Ca Pb Cb ow wr) (k : Tr ow 2 wr ow' wr') (s : ShAt wr' ow' 2 qb FI P' C') : GS w qa qb FI ps D Bd d1 d2 Pa Ca P' C' ow' wr' :=
  ⟨h.clean.tr k (by decide), h.a.other k (by decide), s, h.d.keep k.size (k.toSame (by decide)), h.bd.tr k (by decide)⟩
end
set_option maxRecDepth 100000 in
set_option maxHeartbeats 8000000 in
theorem gone_few (A D : Option Addr) (n c m d : Nat) (ids0 : List Id) (ps : List ActD) (u : Nat) (w : World) (hR : IdsR w (fun _ => 0) 0 A ids0) (hn : ids0.length = n) (hD : ManyR actCells 5 w (fun _ => 0) 0 D ps) (hm : ps.length = m) (h1 : n ≤ 12) (h2 : m ≤ 12) (h0 : 0 < m) (hu : u < 256) :
    Calls Try.prog 14 #[.slice A n c, .slice D m d, .int .u8 u] w fun e w' => e = .returned (.bool true) ∧ Below w.heap.size w w' := by
  have hn' := Lib.hid hn
  have hm' := Lib.hid hm
  have HR := Lib.hid hR
  have HD := Lib.hid hD
  clear hn hm hR hD
  have q1 : ¬ ((12 : Int) < (n : Int)) := by omega
  have q2 : ¬ ((12 : Int) < (m : Int)) := by omega
  have q3 : ((m : Int) == 0) = false := by rw [beq_eq_false_iff_ne]; omega
  go_enter Try.func14, Try.ntmps14
  go_wp2_with fail
  refine (awake24_c _).mono ?_
  rintro e w1 ⟨rfl, hB⟩
  have K1 := Lib.hid ((Clean.start w).next hB)
  have HR1 := Lib.hid (HR.out.keep K1.out.below.size (Same.below K1.out.below))
  have HD1 := Lib.hid (HD.out.keep K1.out.below.size (Same.below K1.out.below))
  clear hB HR HD
  obtain ⟨kk, hkk⟩ : ∃ kk : Nat, kk = u % m := ⟨_, rfl⟩
  have hkm : kk < m := by have := Nat.mod_lt u (show 0 < m by omega); omega
  have ee : (u : Int) % (m : Int) = (kk : Int) := by rw [hkk]; simp
  clear hkk
  have hkl0 : kk < ps.length := by rw [hm'.out]; exact hkm
  obtain ⟨b1, o1, rfl, _, _, hc1⟩ := HD1.out.acts (fun e => by rw [e] at hkl0; simp at hkl0)
  obtain ⟨_, _, _, g3, g4⟩ := hc1 kk hkl0
  have EK := Lib.hid (List.getElem?_eq_getElem hkl0)
  clear hc1
  generalize ps[kk] = z at *
  obtain ⟨zc, za, ⟨d1, d2⟩⟩ := z
  dsimp only at g3 g4
  have k1 : (0 : Int) ≤ (kk : Int) := by omega
  have k2 : (kk : Int) < (m : Int) := by omega
  have K2 := Lib.hid (K1.out.alloc (.cells #[.int .i64 d1, .int .i64 d2] 24))
  have bl : Below w1.heap.size w1 (w1.alloc (.cells #[.int .i64 d1, .int .i64 d2] 24)) := (Below.refl _ _).alloc (Nat.le_refl _) _
  have HR2 := Lib.hid (HR1.out.belowTo bl)
  have HD2 := Lib.hid (HD1.out.keep bl.size (Same.below bl))
  have Q2 := Lib.hid (Box.new K1.out.fresh 24 #[.int .i64 d1, .int .i64 d2])
  clear K1 HR1 HD1 bl
  go_wp2_with fail
  rw [ee]
  clear g3 g4 ee q3
  generalize w1.alloc (.cells #[.int .i64 d1, .int .i64 d2] 24) = V2 at *
  generalize w1.heap.size = Bd at *
  go_loopw [9] (fun i wr => ∃ (j : Nat), j ≤ m ∧ i = .int .i64 j ∧ Hid (ApartTo ids0 ps kk (d1, d2) j) ∧ Hid (Below V2.heap.size V2 wr)) (fun i _ => m - (intOf i).toNat)
  case atStart => exact ⟨0, Nat.zero_le _, rfl, (fun i hi => absurd hi (by omega)), Below.refl _ _⟩
  case round =>
    obtain ⟨j, hj, rfl, hap, hbel⟩ := hrel
    by_cases hlt : j < m
    · have hj0 : (0 : Int) ≤ (j : Int) := by omega
      have hjn : (j : Int) < (m : Int) := by omega
      have hjl : j < ps.length := by rw [hm'.out]; exact hlt
      obtain ⟨b2, o2, hAA, ho2, _, hc2⟩ := (HD2.out.keep hbel.out.size (Same.below hbel.out)).acts (fun e => by rw [e] at hjl; simp at hjl)
      cases hAA
      obtain ⟨_, g1, g2, g3, g4⟩ := hc2 j hjl
      have EZ := Lib.hid (List.getElem?_eq_getElem hjl)
      clear hc2
      generalize ps[j] = z at *
      obtain ⟨zc, ⟨x1, x2⟩, ⟨y1, y2⟩⟩ := z
      dsimp only at g1 g2 g3 g4
      have QB := Q2.out.next hbel.out
      have c0 := QB.blk.cell 0
      have c1 := QB.blk.cell 1
      simp only [List.getElem?_toArray, List.getElem?_cons_zero, List.getElem?_cons_succ] at c0 c1
      have C0 := Lib.hid (Kept.cons (own := fun _ => 0) (T := [0]) g1 (by simp) (Kept.cons g2 (by simp) (Kept.cons g3 (by simp) (Kept.cons g4 (by simp) (Kept.cons c0 (by simp) (Kept.cons c1 (by simp) Kept.nil))))))
      clear g1 g2 g3 g4 c0 c1 QB ho2
      have BD := Lib.hid (hbel.out.trans (((Below.refl _ wr).drew).mono hbel.out.size))
      have HIN := Lib.hid (in36_c A n c ids0 y1 y2 wr.drew (fun _ => 0) 0 (HR2.out.belowTo BD.out) hn'.out (by omega))
      cases hq : ideq x1 x2 d1 d2
      · have Hq := Lib.hid (ideq_false.1 hq)
        by_cases hjk : j = kk
        · subst hjk
          go_wp2_with fail
          refine region_free _ [0, 1, 2, 3, 4, 5, 6, 7, 8, 9, 10, 11, 12, 13, 14, 15, 16, 17, 18, 19, 20, 21, 22, 23, 24, 25, 26, 27] 2 (by kernel_rfl) (by kernel_rfl) (by kernel_rfl) (by kernel_rfl) (by kernel_rfl) (fun _ _ _ _ _ h => h) C0.out.drew.1 ?_
          intro hne hu
          simp only [AllCells] at hu
          simp only [pick, List.take_succ_cons, List.take_zero, List.drop_succ_cons, List.drop_zero, List.cons_append, List.nil_append]
          repeat (go_big_quiet_step (fail))
          refine wpQuiet_nil ?_
          clear hne hu
          refine anyN_oneL 28 (by kernel_rfl) ?_
          simp only [List.take_succ_cons, List.take_zero, List.drop_succ_cons, List.drop_zero]
          go_wp2_with fail
          refine HIN.out.mono ?_
          rintro e w3 ⟨rfl, hb3⟩
          have C1 := Lib.hid (C0.out.drew.next hb3)
          have B3 := Lib.hid (BD.out.trans (hb3.mono BD.out.size))
          obtain ⟨q, hqi⟩ : ∃ q, decide ((y1, y2) ∈ ids0) = q := ⟨_, rfl⟩
          rw [hqi]
          have HQ := Lib.hid hqi
          clear hqi hb3 HIN
          go_wp2_with fail
          refine And.intro (fun _ => C1.out.1) ?_
          cases q
          · refine anyN_oneL 29 (by kernel_rfl) ?_
            simp only [List.take_succ_cons, List.take_zero, List.drop_succ_cons, List.drop_zero]
            go_wp2_with fail
            refine And.intro (fun _ => C1.out.1) ?_
            refine ⟨by kernel_rfl, ?_⟩
            go_wp2_with fail
            go_roundw
            case rel => exact ⟨j + 1, by omega, by go_num, hap.out.step EZ.out (fun e => by simp only [Prod.mk.injEq] at e; exact Hq.out e) (fun h => absurd rfl h) (of_decide_eq_false HQ.out), B3.out⟩
            case measure => simp [intOf]; omega
          · refine anyN_oneL 29 (by kernel_rfl) ?_
            simp only [List.take_succ_cons, List.take_zero, List.drop_succ_cons, List.drop_zero]
            go_wp2_with fail
            refine And.intro (fun _ => C1.out.1) ?_
            refine ⟨by kernel_rfl, ?_⟩
            go_wp2_with fail
            go_ret
            exact ⟨rfl, (K2.out.next B3.out).below⟩
        · have HJ : Hid (((j : Int) != (kk : Int)) = true) := by show _ = _; rw [bne_iff_ne]; omega
          cases hq2 : ideq y1 y2 d1 d2
          · have Hq2 := Lib.hid (ideq_false.1 hq2)
            go_wp2_with fail
            refine region_free _ [0, 1, 2, 3, 4, 5, 6, 7, 8, 9, 10, 11, 12, 13, 14, 15, 16, 17, 18, 19, 20, 21, 22, 23, 24, 25, 26, 27] 2 (by kernel_rfl) (by kernel_rfl) (by kernel_rfl) (by kernel_rfl) (by kernel_rfl) (fun _ _ _ _ _ h => h) C0.out.drew.1 ?_
            intro hne hu
            simp only [AllCells] at hu
            simp only [pick, List.take_succ_cons, List.take_zero, List.drop_succ_cons, List.drop_zero, List.cons_append, List.nil_append]
            repeat (go_big_quiet_step (fail))
            rw [HJ.out]
            repeat (go_big_quiet_step (fail))
            refine wpQuiet_nil ?_
            clear hne hu
            refine anyN_oneL 28 (by kernel_rfl) ?_
            simp only [List.take_succ_cons, List.take_zero, List.drop_succ_cons, List.drop_zero]
            go_wp2_with fail
            refine HIN.out.mono ?_
            rintro e w3 ⟨rfl, hb3⟩
            have C1 := Lib.hid (C0.out.drew.next hb3)
            have B3 := Lib.hid (BD.out.trans (hb3.mono BD.out.size))
            obtain ⟨q, hqi⟩ : ∃ q, decide ((y1, y2) ∈ ids0) = q := ⟨_, rfl⟩
            rw [hqi]
            have HQ := Lib.hid hqi
            clear hqi hb3 HIN
            go_wp2_with fail
            refine And.intro (fun _ => C1.out.1) ?_
            cases q
            · refine anyN_oneL 29 (by kernel_rfl) ?_
              simp only [List.take_succ_cons, List.take_zero, List.drop_succ_cons, List.drop_zero]
              go_wp2_with fail
              refine And.intro (fun _ => C1.out.1) ?_
              refine ⟨by kernel_rfl, ?_⟩
              go_wp2_with fail
              go_roundw
              case rel => exact ⟨j + 1, by omega, by go_num, hap.out.step EZ.out (fun e => by simp only [Prod.mk.injEq] at e; exact Hq.out e) (fun _ e => by simp only [Prod.mk.injEq] at e; exact Hq2.out e) (of_decide_eq_false HQ.out), B3.out⟩
              case measure => simp [intOf]; omega
            · refine anyN_oneL 29 (by kernel_rfl) ?_
              simp only [List.take_succ_cons, List.take_zero, List.drop_succ_cons, List.drop_zero]
              go_wp2_with fail
              refine And.intro (fun _ => C1.out.1) ?_
              refine ⟨by kernel_rfl, ?_⟩
              go_wp2_with fail
              go_ret
              exact ⟨rfl, (K2.out.next B3.out).below⟩
          · go_wp2_with fail
            refine region_free _ [0, 1, 2, 3, 4, 5, 6, 7, 8, 9, 10, 11, 12, 13, 14, 15, 16, 17, 18, 19, 20, 21, 22, 23, 24, 25, 26, 27] 2 (by kernel_rfl) (by kernel_rfl) (by kernel_rfl) (by kernel_rfl) (by kernel_rfl) (fun _ _ _ _ _ h => h) C0.out.drew.1 ?_
            intro hne hu
            simp only [AllCells] at hu
            simp only [pick, List.take_succ_cons, List.take_zero, List.drop_succ_cons, List.drop_zero, List.cons_append, List.nil_append]
            repeat (go_big_quiet_step (fail))
            rw [HJ.out]
            repeat (go_big_quiet_step (fail))
            refine wpQuiet_nil ?_
            clear hne hu
            refine anyN_oneL 28 (by kernel_rfl) ?_
            simp only [List.take_succ_cons, List.take_zero, List.drop_succ_cons, List.drop_zero]
            go_wp2_with fail
            refine And.intro (fun _ => C0.out.drew.1) ?_
            refine anyN_oneL 29 (by kernel_rfl) ?_
            simp only [List.take_succ_cons, List.take_zero, List.drop_succ_cons, List.drop_zero]
            go_wp2_with fail
            refine And.intro (fun _ => C0.out.drew.1) ?_
            refine ⟨by kernel_rfl, ?_⟩
            go_wp2_with fail
            go_ret
            exact ⟨rfl, (K2.out.next BD.out).below⟩
      · go_wp2_with fail
        refine region_free _ [0, 1, 2, 3, 4, 5, 6, 7, 8, 9, 10, 11, 12, 13, 14, 15, 16, 17, 18, 19, 20, 21, 22, 23, 24, 25, 26, 27] 2 (by kernel_rfl) (by kernel_rfl) (by kernel_rfl) (by kernel_rfl) (by kernel_rfl) (fun _ _ _ _ _ h => h) C0.out.drew.1 ?_
        intro hne hu
        simp only [AllCells] at hu
        simp only [pick, List.take_succ_cons, List.take_zero, List.drop_succ_cons, List.drop_zero, List.cons_append, List.nil_append]
        repeat (go_big_quiet_step (fail))
        refine wpQuiet_nil ?_
        clear hne hu
        refine anyN_oneL 28 (by kernel_rfl) ?_
        simp only [List.take_succ_cons, List.take_zero, List.drop_succ_cons, List.drop_zero]
        go_wp2_with fail
        refine And.intro (fun _ => C0.out.drew.1) ?_
        refine anyN_oneL 29 (by kernel_rfl) ?_
        simp only [List.take_succ_cons, List.take_zero, List.drop_succ_cons, List.drop_zero]
        go_wp2_with fail
        refine And.intro (fun _ => C0.out.drew.1) ?_
        refine ⟨by kernel_rfl, ?_⟩
        go_wp2_with fail
        go_ret
        exact ⟨rfl, (K2.out.next BD.out).below⟩
    · have hjj : j = m := by omega
      subst hjj
      have hjn : ¬ ((j : Int) < (j : Int)) := by omega
      have K3 := Lib.hid (K2.out.next hbel.out)
      have HR3 := Lib.hid (HR2.out.belowTo hbel.out)
      have HD3 := Lib.hid (HD2.out.keep hbel.out.size (Same.below hbel.out))
      have Q3 := Lib.hid (Q2.out.next hbel.out)
      have HAP := Lib.hid hap.out
      clear hap hbel K2 HR2 HD2 Q2
      go_wp2_with fail
      refine (snew_c A n c ids0 wr (fun _ => 0) 0 1 HR3.out hn'.out (by simp [maxLen]; omega) (by decide) K3.out.fresh (by decide)).mono ?_
      rintro e w3 ⟨own3, qa, rfl, tr3, a3⟩
      have K4 := Lib.hid (K3.out.tr tr3 (by decide))
      have D4 := Lib.hid (HD3.out.keep tr3.size (tr3.toSame (by decide)))
      have HR4 := Lib.hid (HR3.out.keep tr3.size (tr3.toSame (by decide)))
      have Q4 := Lib.hid (Q3.out.tr tr3 (by decide))
      have A4 := Lib.hid a3
      clear K3 HR3 HD3 tr3 a3 Q3
      go_wp2_with fail
      refine (snew_c A n c ids0 w3 own3 0 2 HR4.out hn'.out (by simp [maxLen]; omega) (by decide) K4.out.fresh (by decide)).mono ?_
      rintro e w4 ⟨own4, qb, rfl, tr4, a4⟩
      have S4 : Hid (GS w qa qb (newL ids0) ps (some ⟨b1, o1, none⟩) Bd d1 d2 [] [] [] [] own4 w4) := ⟨K4.out.tr tr4 (by decide), A4.out.other tr4 (by decide), a4, D4.out.keep tr4.size (tr4.toSame (by decide)), Q4.out.tr tr4 (by decide)⟩
      clear K4 HR4 D4 A4 tr4 a4 Q4
      have hF : ∀ k, k < 100 → (newL ids0).length + k < 1000 := fun k hk => by
        have := newL_len ids0
        rw [hn'.out] at this
        omega
      have HNI : Hid ((d1, d2) ∉ newL ids0) := fun hm => (HAP.out kk hkm _ EK.out).2.2 (newL_sub ids0 _ hm)
      generalize newL ids0 = FI at *
      go_wp2_with fail
      go_loopw [12] (fun i wr => ∃ (k : Nat) (ow : Tags) (Pa Ca Pb Cb : List (Id × Id)), k ≤ j ∧ i = .int .i64 k ∧ Hid (GR (d1, d2) kk k Pa Ca Pb Cb) ∧ Hid (GS w qa qb FI ps (some ⟨b1, o1, none⟩) Bd d1 d2 Pa Ca Pb Cb ow wr)) (fun i _ => j - (intOf i).toNat)
      case atStart => exact ⟨0, own4, [], [], [], [], Nat.zero_le _, rfl, ⟨⟨by simp, .inl rfl⟩, ⟨by simp, .inl rfl⟩, fun _ => ⟨rfl, rfl⟩, ⟨by simp, by simp, by simp, by simp⟩⟩, S4.out⟩
      case round =>
        clear S4
        obtain ⟨k, ow, Pa, Ca, Pb, Cb, hk, rfl, HG, hS⟩ := hrel
        by_cases hlt : k < j
        · have hF := hF k (by omega)
          have hk0 : (0 : Int) ≤ (k : Int) := by omega
          have hkn : (k : Int) < (j : Int) := by omega
          have hkl : k < ps.length := by rw [hm'.out]; exact hlt
          obtain ⟨⟨zc, ⟨x1, x2⟩, ⟨y1, y2⟩⟩, hz⟩ : ∃ z, ps[k] = z := ⟨_, rfl⟩
          have EZ2 := Lib.hid ((List.getElem?_eq_getElem hkl).trans (congrArg some hz))
          have EZ := Lib.hid hz
          clear hz
          have HD1 : Hid (k = kk → (y1, y2) = (d1, d2)) := fun e => by
            subst e
            have := Option.some.inj (EZ2.out.symm.trans EK.out)
            simp only [ActD.mk.injEq] at this
            exact this.2.2
          cases zc
          · skip
            obtain ⟨b5, o5, hAA5, ho5, _, hc5⟩ := hS.out.d.acts (fun e => by rw [e] at hkl; simp at hkl)
            cases hAA5
            obtain ⟨g0, g1, g2, g3, g4⟩ := hc5 k hkl
            rw [EZ.out] at g0 g1 g2 g3 g4
            dsimp only at g0 g1 g2 g3 g4
            clear hc5
            have C0 := Lib.hid (Kept.cons (own := ow) (T := [0]) g1 (by simp [ho5]) (Kept.cons g2 (by simp [ho5]) (Kept.cons g3 (by simp [ho5]) (Kept.cons g4 (by simp [ho5]) Kept.nil))))
            have D0 := Lib.hid (hS.out.next ((Below.refl _ wr).drew))
            have HIN := Lib.hid (sinsert_c wr.drew ow 1 qa FI Pa Ca x1 x2 y1 y2 D0.out.a D0.out.clean.fresh (by decide))
            clear ho5 hS
            go_wp2_with fail
            refine region_free _ [0, 1, 2, 3, 4, 5, 6, 7, 8, 9, 10] 1 (by kernel_rfl) (by kernel_rfl) (by kernel_rfl) (by kernel_rfl) (by kernel_rfl) (fun _ _ _ _ _ h => h) C0.out.drew.1 ?_
            intro hne hu
            simp only [AllCells] at hu
            simp only [pick, List.take_succ_cons, List.take_zero, List.drop_succ_cons, List.drop_zero, List.cons_append, List.nil_append]
            repeat (go_big_quiet_step (fail))
            refine wpQuiet_nil ?_
            clear hne hu g0 g1 g2 g3 g4
            refine anyN_oneL 11 (by kernel_rfl) ?_
            simp only [List.take_succ_cons, List.take_zero, List.drop_succ_cons, List.drop_zero]
            go_wp2_with fail
            refine HIN.out.mono ?_
            rintro e w5 ⟨rfl, ow5, tr5, sh5⟩
            have C1 := Lib.hid (C0.out.drew.tr tr5 (by decide))
            have S5 := Lib.hid (D0.out.actA tr5 sh5)
            clear tr5 sh5 HIN C0 D0
            go_wp2_with fail
            refine And.intro (fun _ => C1.out.1) ?_
            refine ⟨by kernel_rfl, ?_⟩
            clear C1
            by_cases hjk : k = kk
            · subst hjk
              go_wp2_with fail
              go_roundw
              case rel => exact ⟨k + 1, ow5, (insPuts FI Pa (x1, x2) (y1, y2)), Ca, Pb, Cb, by omega, by go_num, HG.out.mid (FI := FI) (a := ⟨false, (x1, x2), (y1, y2)⟩) (HD1.out rfl), S5.out⟩
              case measure => simp [intOf]; omega
            · have hjk' : ¬ ((k : Int) = (kk : Int)) := by omega
              obtain ⟨b7, o7, hAA7, _, _, hc7⟩ := S5.out.d.acts (fun e => by rw [e] at hkl; simp at hkl)
              cases hAA7
              obtain ⟨g0, _⟩ := hc7 k hkl
              rw [EZ.out] at g0
              dsimp only at g0
              clear hc7
              obtain ⟨b6, o6, hAA6, ho6, _, hc6⟩ := S5.out.d.acts (fun e => by rw [e] at hkl; simp at hkl)
              cases hAA6
              obtain ⟨g0, g1, g2, g3, g4⟩ := hc6 k hkl
              rw [EZ.out] at g0 g1 g2 g3 g4
              dsimp only at g0 g1 g2 g3 g4
              clear hc6
              have C0 := Lib.hid (Kept.cons (own := ow5) (T := [0]) g1 (by simp [ho6]) (Kept.cons g2 (by simp [ho6]) (Kept.cons g3 (by simp [ho6]) (Kept.cons g4 (by simp [ho6]) Kept.nil))))
              have D0 := Lib.hid (S5.out.next ((Below.refl _ w5).drew))
              have HIN := Lib.hid (sinsert_c w5.drew ow5 2 qb FI Pb Cb x1 x2 y1 y2 D0.out.b D0.out.clean.fresh (by decide))
              clear ho6 S5
              go_wp2_with fail
              refine region_free _ [0, 1, 2, 3, 4, 5, 6, 7, 8, 9, 10] 1 (by kernel_rfl) (by kernel_rfl) (by kernel_rfl) (by kernel_rfl) (by kernel_rfl) (fun _ _ _ _ _ h => h) C0.out.drew.1 ?_
              intro hne hu
              simp only [AllCells] at hu
              simp only [pick, List.take_succ_cons, List.take_zero, List.drop_succ_cons, List.drop_zero, List.cons_append, List.nil_append]
              repeat (go_big_quiet_step (fail))
              refine wpQuiet_nil ?_
              clear hne hu g0 g1 g2 g3 g4
              refine anyN_oneL 11 (by kernel_rfl) ?_
              simp only [List.take_succ_cons, List.take_zero, List.drop_succ_cons, List.drop_zero]
              go_wp2_with fail
              refine HIN.out.mono ?_
              rintro e w6 ⟨rfl, ow6, tr6, sh6⟩
              have C1 := Lib.hid (C0.out.drew.tr tr6 (by decide))
              have S6 := Lib.hid (D0.out.actB tr6 sh6)
              clear tr6 sh6 HIN C0 D0
              go_wp2_with fail
              refine And.intro (fun _ => C1.out.1) ?_
              refine ⟨by kernel_rfl, ?_⟩
              clear C1
              go_wp2_with fail
              go_roundw
              case rel => exact ⟨k + 1, ow6, (insPuts FI Pa (x1, x2) (y1, y2)), Ca, (insPuts FI Pb (x1, x2) (y1, y2)), Cb, by omega, by go_num, HG.out.step (FI := FI) (a := ⟨false, (x1, x2), (y1, y2)⟩) (HAP.out k hlt _ EZ2.out).1 ((HAP.out k hlt _ EZ2.out).2.1 hjk) hF, S6.out⟩
              case measure => simp [intOf]; omega
          · skip
            obtain ⟨b5, o5, hAA5, ho5, _, hc5⟩ := hS.out.d.acts (fun e => by rw [e] at hkl; simp at hkl)
            cases hAA5
            obtain ⟨g0, g1, g2, g3, g4⟩ := hc5 k hkl
            rw [EZ.out] at g0 g1 g2 g3 g4
            dsimp only at g0 g1 g2 g3 g4
            clear hc5
            have C0 := Lib.hid (Kept.cons (own := ow) (T := [0]) g1 (by simp [ho5]) (Kept.cons g2 (by simp [ho5]) (Kept.cons g3 (by simp [ho5]) (Kept.cons g4 (by simp [ho5]) Kept.nil))))
            have D0 := Lib.hid (hS.out.next ((Below.refl _ wr).drew))
            have HIN := Lib.hid (sdelete_c wr.drew ow 1 qa FI Pa Ca x1 x2 y1 y2 D0.out.a D0.out.clean.fresh (by decide) (by have := HG.out.lens.c; omega))
            clear ho5 hS
            go_wp2_with fail
            refine region_free _ [0, 1, 2, 3, 4, 5, 6, 7, 8, 9, 10] 1 (by kernel_rfl) (by kernel_rfl) (by kernel_rfl) (by kernel_rfl) (by kernel_rfl) (fun _ _ _ _ _ h => h) C0.out.drew.1 ?_
            intro hne hu
            simp only [AllCells] at hu
            simp only [pick, List.take_succ_cons, List.take_zero, List.drop_succ_cons, List.drop_zero, List.cons_append, List.nil_append]
            repeat (go_big_quiet_step (fail))
            refine wpQuiet_nil ?_
            clear hne hu g0 g1 g2 g3 g4
            refine anyN_oneL 11 (by kernel_rfl) ?_
            simp only [List.take_succ_cons, List.take_zero, List.drop_succ_cons, List.drop_zero]
            go_wp2_with fail
            refine HIN.out.mono ?_
            rintro e w5 ⟨rfl, ow5, tr5, sh5⟩
            have C1 := Lib.hid (C0.out.drew.tr tr5 (by decide))
            have S5 := Lib.hid (D0.out.actA tr5 sh5)
            clear tr5 sh5 HIN C0 D0
            go_wp2_with fail
            refine And.intro (fun _ => C1.out.1) ?_
            refine ⟨by kernel_rfl, ?_⟩
            clear C1
            by_cases hjk : k = kk
            · subst hjk
              go_wp2_with fail
              go_roundw
              case rel => exact ⟨k + 1, ow5, Pa, (cutCuts FI Pa Ca (x1, x2) (y1, y2)), Pb, Cb, by omega, by go_num, HG.out.mid (FI := FI) (a := ⟨true, (x1, x2), (y1, y2)⟩) (HD1.out rfl), S5.out⟩
              case measure => simp [intOf]; omega
            · have hjk' : ¬ ((k : Int) = (kk : Int)) := by omega
              obtain ⟨b7, o7, hAA7, _, _, hc7⟩ := S5.out.d.acts (fun e => by rw [e] at hkl; simp at hkl)
              cases hAA7
              obtain ⟨g0, _⟩ := hc7 k hkl
              rw [EZ.out] at g0
              dsimp only at g0
              clear hc7
              obtain ⟨b6, o6, hAA6, ho6, _, hc6⟩ := S5.out.d.acts (fun e => by rw [e] at hkl; simp at hkl)
              cases hAA6
              obtain ⟨g0, g1, g2, g3, g4⟩ := hc6 k hkl
              rw [EZ.out] at g0 g1 g2 g3 g4
              dsimp only at g0 g1 g2 g3 g4
              clear hc6
              have C0 := Lib.hid (Kept.cons (own := ow5) (T := [0]) g1 (by simp [ho6]) (Kept.cons g2 (by simp [ho6]) (Kept.cons g3 (by simp [ho6]) (Kept.cons g4 (by simp [ho6]) Kept.nil))))
              have D0 := Lib.hid (S5.out.next ((Below.refl _ w5).drew))
              have HIN := Lib.hid (sdelete_c w5.drew ow5 2 qb FI Pb Cb x1 x2 y1 y2 D0.out.b D0.out.clean.fresh (by decide) (by have := HG.out.lens.d; omega))
              clear ho6 S5
              go_wp2_with fail
              refine region_free _ [0, 1, 2, 3, 4, 5, 6, 7, 8, 9, 10] 1 (by kernel_rfl) (by kernel_rfl) (by kernel_rfl) (by kernel_rfl) (by kernel_rfl) (fun _ _ _ _ _ h => h) C0.out.drew.1 ?_
              intro hne hu
              simp only [AllCells] at hu
              simp only [pick, List.take_succ_cons, List.take_zero, List.drop_succ_cons, List.drop_zero, List.cons_append, List.nil_append]
              repeat (go_big_quiet_step (fail))
              refine wpQuiet_nil ?_
              clear hne hu g0 g1 g2 g3 g4
              refine anyN_oneL 11 (by kernel_rfl) ?_
              simp only [List.take_succ_cons, List.take_zero, List.drop_succ_cons, List.drop_zero]
              go_wp2_with fail
              refine HIN.out.mono ?_
              rintro e w6 ⟨rfl, ow6, tr6, sh6⟩
              have C1 := Lib.hid (C0.out.drew.tr tr6 (by decide))
              have S6 := Lib.hid (D0.out.actB tr6 sh6)
              clear tr6 sh6 HIN C0 D0
              go_wp2_with fail
              refine And.intro (fun _ => C1.out.1) ?_
              refine ⟨by kernel_rfl, ?_⟩
              clear C1
              go_wp2_with fail
              go_roundw
              case rel => exact ⟨k + 1, ow6, Pa, (cutCuts FI Pa Ca (x1, x2) (y1, y2)), Pb, (cutCuts FI Pb Cb (x1, x2) (y1, y2)), by omega, by go_num, HG.out.step (FI := FI) (a := ⟨true, (x1, x2), (y1, y2)⟩) (HAP.out k hlt _ EZ2.out).1 ((HAP.out k hlt _ EZ2.out).2.1 hjk) hF, S6.out⟩
              case measure => simp [intOf]; omega
        · have hkk : k = j := by omega
          subst hkk
          have hkn : ¬ ((k : Int) < (k : Int)) := by omega
          have HL := Lib.hid (gone_live hS.out.a.wf hS.out.b.wf HG.out.p HG.out.c HNI.out (by have := HG.out.lens.b; have := hF k (by omega); omega))
          have hca : Ca.length ≤ 1000 := by have := HG.out.lens.c; omega
          have hcb : Cb.length ≤ 1000 := by have := HG.out.lens.d; omega
          have hlb : ((orderL FI Pb).filter (liveB Pb Cb [])).length ≤ 1000 := Nat.le_trans (List.length_filter_le _ _) (by rw [(order_facts hS.out.b.wf).2.2]; exact hS.out.b.wf.len)
          have bl : Below wr.heap.size wr (wr.alloc (.cells #[.int .i64 d1, .int .i64 d2] 24)) := (Below.refl _ _).alloc (Nat.le_refl _) _
          have S5 := Lib.hid (hS.out.next bl)
          have I5 := Lib.hid (ids_one (Blk.new wr 24 #[.int .i64 d1, .int .i64 d2]))
          have c0 := hS.out.bd.blk.cell 0
          have c1 := hS.out.bd.blk.cell 1
          have lb := hS.out.bd.blk.lt
          simp only [List.getElem?_toArray, List.getElem?_cons_zero, List.getElem?_cons_succ] at c0 c1
          clear hS bl
          go_wp2_with fail
          clear c0 c1 lb
          refine (live56_c _ ow 1 qa FI Pa Ca S5.out.a hca (some ⟨wr.heap.size, 0, none⟩) 1 1 [(d1, d2)] I5.out rfl (by omega)).mono ?_
          rintro e w6 ⟨A6, c6, rfl, hB, hI⟩
          rw [HL.out] at hI ⊢
          have S6 := Lib.hid (S5.out.next hB)
          have I6 := Lib.hid hI
          clear S5 I5 hB hI HL
          go_wp2_with fail
          refine (live56_c w6 ow 2 qb FI Pb Cb S6.out.b hcb none 0 0 [] (ids_none _) rfl (by omega)).mono ?_
          rintro e w7 ⟨A7, c7, rfl, hB, hI⟩
          have S7 := Lib.hid (S6.out.next hB)
          have I7 := Lib.hid (I6.out.belowTo hB)
          have J7 := Lib.hid hI
          clear S6 I6 hB hI
          generalize (orderL FI Pb).filter (liveB Pb Cb []) = LB at *
          go_wp2_with fail
          refine (same28_c A6 A7 LB.length LB.length c6 c7 LB LB w7 (fun _ => 0) (fun _ => 0) 0 0 I7.out J7.out rfl rfl (by omega)).mono ?_
          rintro e w8 ⟨rfl, hB⟩
          rw [decide_eq_true rfl]
          have S8 := Lib.hid (S7.out.next hB)
          clear S7 hB I7 J7
          go_wp2_with fail
          go_ret
          exact ⟨rfl, S8.out.clean.below⟩

set_option maxRecDepth 100000 in
set_option maxHeartbeats 4000000 in
theorem gone_many (A D : Option Addr) (n c m d u : Nat) (w : World) (h : 12 < n ∨ m = 0 ∨ 12 < m) :
    Calls Try.prog 14 #[.slice A n c, .slice D m d, .int .u8 u] w fun e w' => e = .returned (.bool true) ∧ Below w.heap.size w w' := by
  go_enter Try.func14, Try.ntmps14
  go_wp2_with fail
  refine (awake24_c _).mono ?_
  rintro e w1 ⟨rfl, hB⟩
  have K1 := Lib.hid ((Clean.start w).next hB)
  clear hB
  by_cases h1 : 12 < n
  · have h2 : (12 : Int) < (n : Int) := by omega
    clear h h1
    go_wp2_with fail
    refine (awake24_c _).mono ?_
    rintro e w2 ⟨rfl, hB⟩
    have K2 := Lib.hid (K1.out.next hB)
    clear K1 hB
    go_wp2_with fail
    go_ret
    exact ⟨rfl, K2.out.below⟩
  · have h2 : ¬ (12 : Int) < (n : Int) := by omega
    by_cases h3 : m = 0
    · subst h3
      clear h h1
      go_wp2_with fail
      refine (awake24_c _).mono ?_
      rintro e w2 ⟨rfl, hB⟩
      have K2 := Lib.hid (K1.out.next hB)
      clear K1 hB
      go_wp2_with fail
      go_ret
      exact ⟨rfl, K2.out.below⟩
    · have h4 : ((m : Int) == 0) = false := by rw [beq_eq_false_iff_ne]; omega
      have h5 : (12 : Int) < (m : Int) := by omega
      clear h h1 h3
      go_wp2_with fail
      refine (awake24_c _).mono ?_
      rintro e w2 ⟨rfl, hB⟩
      have K2 := Lib.hid (K1.out.next hB)
      clear K1 hB
      go_wp2_with fail
      go_ret
      exact ⟨rfl, K2.out.below⟩
theorem gone_any (A D : Option Addr) (n c m d : Nat) (ids0 : List Id) (ps : List ActD) (u : Nat) (w : World) (hR : IdsR w (fun _ => 0) 0 A ids0) (hn : ids0.length = n) (hD : ManyR actCells 5 w (fun _ => 0) 0 D ps) (hm : ps.length = m) (hu : u < 256) :
    Calls Try.prog 14 #[.slice A n c, .slice D m d, .int .u8 u] w fun e w' => e = .returned (.bool true) ∧ Below w.heap.size w w' := by
  by_cases h1 : n ≤ 12
  · by_cases h2 : m ≤ 12
    · by_cases h3 : m = 0
      · exact gone_many A D n c m d u w (.inr (.inl h3))
      · exact gone_few A D n c m d ids0 ps u w hR hn hD hm h1 h2 (by omega) hu
    · exact gone_many A D n c m d u w (.inr (.inr (by omega)))
  · exact gone_many A D n c m d u w (.inl (by omega))
end Go.Proofs.Ytgmlhpkhecbkoaa
namespace Go.Proofs.Ytgmlhpkhecbkoaa
open Go.RowKit Go.ChangeShapes Go.WideShapes Go.ChangeAt Go.Joins Go.Deep

theorem Try.cells83 : Try.prog.cellsOf 83 = 5 := by kernel_rfl
theorem Try.cells4 : Try.prog.cellsOf 4 = 1 := by kernel_rfl
section
variable {H : Type} {enc : TypeId × Value → H} {w : World} {base : Nat} {spare : Nat → Bool} {held : Bool}
set_option maxRecDepth 100000 in
theorem trod_act {fuel : Nat} {cs : List Value} {x : DataW H × List MemPlace} (h : DataW.trod enc Try.prog w base spare held fuel 83 cs = some x) : ∃ z : ActD, cs = actCells z ∧ True := by
  obtain ⟨y0, y1, y2, n, _, hl, h0, h1, h2⟩ := trod_struct3 Try.underlying83 h
  rw [Try.cells83] at hl
  obtain ⟨c0, c1, c2, c3, c4, rfl⟩ := five_of hl
  simp only [Try.cells4, Try.cells24, List.drop_zero, List.take_succ_cons, List.take_zero, List.drop_succ_cons] at h0 h1 h2
  obtain ⟨a, e0, _⟩ := DataW.trod_bool Try.underlying4 h0
  obtain ⟨b, c, e1, _⟩ := trod_id h1
  obtain ⟨d, e, e2, _⟩ := trod_id h2
  cases e0
  cases e1
  cases e2
  exact ⟨⟨a, (b, c), (d, e)⟩, rfl, trivial⟩
set_option maxRecDepth 100000 in
theorem open_acts {r : Go.Reach} {b0 : Nat} {v : Value} {d : DataW H} {p : List MemPlace} (hv : Value.okWide Try.prog w r b0 77 v) (h : DataW.Trod enc Try.prog w 0 (fun _ => true) held 77 v d p) :
    ∃ A n c l, v = .slice A n c ∧ l.length = n ∧ n ≤ maxLen ∧ ManyR actCells 5 w (fun _ => 0) 0 A l ∧ ∀ z ∈ l, True :=
  open_many Try.underlying77 Try.cells83 (by omega) (fun _ => rfl) (fun _ _ _ h => trod_act h) hv h
end
set_option maxRecDepth 100000 in
theorem seqcGone_lifted (os : Os) (started : os.Started) (H : Type) (enc : TypeId × Value → H) :
    ReturnsInHanded {} Try.checked os 14 .any (Rows.seqcGoneSpec.pre6 enc Try.prog Try.f14 Rows.seqcGoneRow.domain false) (Rows.seqcGoneSpec.post enc Try.prog Try.f14 false true false false) := by
  refine returnsInHanded_of_change (C := Try.checked) Try.own started (by kernel_rfl) Try.func14
    (ChangeSpec.witness6 (enc := enc) (C := Try.checked) false ⟨#[], #[.slice none 0 0, .slice none 0 0, .int .u8 0], []⟩ 8 (by kernel_rfl) (by kernel_rfl) (by kernel_rfl) (by kernel_rfl)) ?_
  intro W base args ds gs before hval0 hW _ _
  have hval : ∀ (j : Nat) t v, Try.f14.params[j]? = some t → args[j]? = some v → Value.okWide Try.prog W .any base t v := hval0
  have hW' := hW
  obtain ⟨p, q, hA0, hV, rfl, hfz, hnd⟩ := hW
  have hA : DataW.TrodAll enc Try.prog W 0 (fun _ => true) true Try.f14.params.toList args.toList ds p := hA0
  rw [Try.params14] at hA hval
  obtain ⟨v0, v1, v2, d0, d1, d2, p0, p1, p2, rfl, rfl, rfl, h0, h1, h2⟩ := trodAll_three hA
  obtain ⟨rfl, rfl⟩ := trodVars_none hV
  clear hA0 hval0
  simp only [List.append_nil] at hW'
  have hlt : ∀ x ∈ p0 ++ p1 ++ p2, x.block < W.heap.size := fun x hx => by simpa using hW'.lt x hx
  obtain ⟨A0, n0, c0, l0, rfl, hn0, hm0, hR0, hg0⟩ := open_ids (hval 0 22 v0 rfl rfl) h0
  obtain ⟨A1, n1, c1, l1, rfl, hn1, hm1, hR1, hg1⟩ := open_acts (hval 1 77 v1 rfl rfl) h1
  obtain ⟨x2, rfl, fx2⟩ := open_u8 (hval 2 5 v2 rfl rfl) h2
  refine (gone_any A0 A1 n0 c0 n1 c1 l0 l1 x2 W hR0 hn0 hR1 hn1 fx2).mono fun e W' ⟨he, hnx⟩ => ?_
  subst he
  refine ⟨_, rfl, _, _, _, [], p0 ++ p1 ++ p2, [], hW', ?_, ?_, rfl, hnx.frame _, fun h => by cases h⟩
  · exact trodAll_mk1 (shut_bool Try.underlying4 true)
  · rw [List.append_assoc]
    exact trodAll_mk3 (Below.trod Try.laidOut (by kernel_rfl) (of_decide_eq_true (by kernel_rfl)) h0 hnx (fun x hx => hlt x (by simp [hx]))) (Below.trod Try.laidOut (by kernel_rfl) (of_decide_eq_true (by kernel_rfl)) h1 hnx (fun x hx => hlt x (by simp [hx]))) (Below.trod Try.laidOut (by kernel_rfl) (of_decide_eq_true (by kernel_rfl)) h2 hnx (fun x hx => hlt x (by simp [hx])))

theorem seqcGone_holds : Rows.SeqcGoneSaid :=
  OpenClaim.holds_of_wide 14 Try.f14 rfl rfl rfl rfl rfl rfl rfl ⟨rfl, rfl, rfl, rfl, rfl⟩ rfl rfl rfl rfl rfl (by kernel_rfl) Try.func14 (by kernel_rfl)
    (of_decide_eq_true (by kernel_rfl)) (by unfold Func.isWrapper; first | (rw [if_pos (by decide +kernel)]; kernel_rfl) | (rw [if_neg (by decide +kernel)]; exact ⟨rfl, rfl⟩))
    (fun os started H enc _ => seqcGone_lifted os started H enc)
end Go.Proofs.Ytgmlhpkhecbkoaa
