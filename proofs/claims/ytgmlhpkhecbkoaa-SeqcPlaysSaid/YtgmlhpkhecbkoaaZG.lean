/-
  SeqcGone: the plain law: with a deed gone the live ones are those of an axis in which it was never done. No condition beyond those said.
  counterpanelaw36.SeqcGone: its walk. Conditions: the arguments can be read.
  Opening an argument that is a list of acts. No condition.
  counterpaneref36: zero, before, Has: their contracts. Condition: the document's shared axis can be read as RefS says.
  counterpaneref36: Insert, Delete: their contracts. Condition: the document's shared axis can be read as RefS says.
  counterpaneref36.Live: its contract. Condition: the document's shared axis and the list can be read.
  counterpaneref36.New: its contract. Condition: the list can be read.
  counterpaneref36.hangs: its contract. Condition: the document's shared axis can be read.
  counterpaneref36.All: its contract. Condition: the document's shared axis can be read.
  counterpanelaw36.SeqcPlays: its walk. Conditions: the arguments can be read.
  SeqcPlaysSaid, proved: for every input the law returns true, and each argument reads afterwards as it read before. No condition.
-/
import Derived.Test.YtgmlhpkhecbkoaaWX
namespace Go.Proofs.Ytgmlhpkhecbkoaa

structure ActD where
  cut : Bool
  at' : Id
  id : Id
instance : Inhabited ActD := ⟨⟨false, (0, 0), (0, 0)⟩⟩
/-- The insertions behind one act. -/
def actP (F : List Id) (P : List (Id × Id)) (a : ActD) : List (Id × Id) := if a.cut then P else insPuts F P a.at' a.id
/-- The deletions behind one act. -/
def actC (F : List Id) (P C : List (Id × Id)) (a : ActD) : List (Id × Id) := if a.cut then cutCuts F P C a.at' a.id else C
/-- What is the same but for one deed. -/
def Less (d : Id) (x y : List (Id × Id)) : Prop := d ∉ y.map Prod.snd ∧ (x = y ∨ ∃ X Y b, x = X ++ (b, d) :: Y ∧ y = X ++ Y)
theorem Less.mem {d : Id} {x y : List (Id × Id)} (h : Less d x y) {p : Id × Id} (hp : p.2 ≠ d) : p ∈ x ↔ p ∈ y := by
  obtain ⟨_, rfl | ⟨X, Y, b, rfl, rfl⟩⟩ := h
  · rfl
  · simp only [List.mem_append, List.mem_cons]
    constructor
    · rintro (h | h | h)
      · exact .inl h
      · exact absurd (by rw [h]) hp
      · exact .inr h
    · rintro (h | h)
      · exact .inl h
      · exact .inr (.inr h)
theorem Less.snd {d : Id} {x y : List (Id × Id)} (h : Less d x y) {z : Id} (hz : z ≠ d) : z ∈ x.map Prod.snd ↔ z ∈ y.map Prod.snd := by
  simp only [List.mem_map]
  constructor
  · rintro ⟨p, hp, rfl⟩; exact ⟨p, (h.mem hz).1 hp, rfl⟩
  · rintro ⟨p, hp, rfl⟩; exact ⟨p, (h.mem hz).2 hp, rfl⟩
theorem Less.snoc {d : Id} {x y : List (Id × Id)} (h : Less d x y) {p : Id × Id} (hp : p.2 ≠ d) : Less d (x ++ [p]) (y ++ [p]) := by
  obtain ⟨h1, h2⟩ := h
  refine ⟨?_, ?_⟩
  · rw [List.map_append, List.mem_append]
    rintro (h | h)
    · exact h1 h
    · have e : d = p.2 := by simpa using h
      exact hp e.symm
  · rcases h2 with rfl | ⟨X, Y, b, rfl, rfl⟩
    · exact .inl rfl
    · exact .inr ⟨X, Y ++ [p], b, by simp, by simp⟩
theorem Less.add {d : Id} {x : List (Id × Id)} (h : d ∉ x.map Prod.snd) (b : Id) : Less d (x ++ [(b, d)]) x := ⟨h, .inr ⟨x, [], b, by simp, by simp⟩⟩
theorem Less.len {d : Id} {x y : List (Id × Id)} (h : Less d x y) : y.length ≤ x.length := by
  obtain ⟨_, rfl | ⟨X, Y, b, rfl, rfl⟩⟩ := h
  · exact Nat.le_refl _
  · simp
theorem Less.has {d : Id} {F : List Id} {x y : List (Id × Id)} (h : Less d x y) {z : Id} (hz : z ≠ d) : has F x z = has F y z := by
  have := h.snd hz
  unfold Proofs.Ytgmlhpkhecbkoaa.has
  rw [decide_eq_decide.2 this]
section
variable {F : List Id} {Pa Ca Pb Cb : List (Id × Id)} {d : Id} {a : ActD}
theorem Less.actP (h : Less d Pa Pb) (h1 : a.at' ≠ d) (h2 : a.id ≠ d) (hl : F.length + Pa.length < 1000) : Less d (actP F Pa a) (actP F Pb a) := by
  unfold Proofs.Ytgmlhpkhecbkoaa.actP
  split
  · exact h
  · have e : insS F Pa a.at' a.id = insS F Pb a.at' a.id := by
      have := h.len
      unfold insS
      rw [h.has h1, h.has h2, if_neg (show ¬ 1000 ≤ F.length + Pa.length by omega), if_neg (show ¬ 1000 ≤ F.length + Pb.length by omega)]
    unfold insPuts
    rw [e]
    split
    · exact h.snoc h2
    · exact h
theorem Less.actC (h : Less d Pa Pb) (k : Less d Ca Cb) (h1 : a.at' ≠ d) (h2 : a.id ≠ d) : Less d (actC F Pa Ca a) (actC F Pb Cb a) := by
  unfold Proofs.Ytgmlhpkhecbkoaa.actC
  split
  · have e : cutS F Pa Ca a.at' a.id = cutS F Pb Cb a.at' a.id := by
      have e2 : (a.id ∈ Ca.map Prod.snd) = (a.id ∈ Cb.map Prod.snd) := propext (k.snd h2)
      unfold cutS
      rw [h.has h1]
      simp only [e2]
    unfold cutCuts
    rw [e]
    split
    · exact k.snoc h2
    · exact k
  · exact k
theorem Less.first (h : d ∉ Pa.map Prod.snd) (ha : a.id = d) : Less d (Proofs.Ytgmlhpkhecbkoaa.actP F Pa a) Pa := by
  unfold Proofs.Ytgmlhpkhecbkoaa.actP
  split
  · exact ⟨h, .inl rfl⟩
  · unfold insPuts
    split
    · rw [ha]; exact Less.add h _
    · exact ⟨h, .inl rfl⟩
theorem Less.firstC (h : d ∉ Ca.map Prod.snd) (ha : a.id = d) : Less d (Proofs.Ytgmlhpkhecbkoaa.actC F Pa Ca a) Ca := by
  unfold Proofs.Ytgmlhpkhecbkoaa.actC
  split
  · unfold cutCuts
    split
    · rw [ha]; exact Less.add h _
    · exact ⟨h, .inl rfl⟩
  · exact ⟨h, .inl rfl⟩
/-- The law. -/
theorem gone_live (ha : Wf F Pa) (hb : Wf F Pb) (h : Less d Pa Pb) (k : Less d Ca Cb) (hd : d ∉ F) (hl : F.length + Pb.length < 1000) : (orderL F Pa).filter (liveB Pa Ca [d]) = (orderL F Pb).filter (liveB Pb Cb []) := by
  have live : ∀ z, z ≠ d → liveB Pa Ca [d] z = liveB Pb Cb [] z := fun z hz => by
    have e1 : z ∉ [d] := by simpa using hz
    unfold liveB
    rw [decide_eq_false e1, Bool.and_false, decide_eq_false (by simp : z ∉ ([] : List Id)), Bool.and_false]
    congr 1
    rw [decide_eq_decide]
    constructor
    · intro hh c hc hcz
      have hcd : c.2 ≠ d := fun e => k.1 (e ▸ List.mem_map_of_mem hc)
      have := hh c ((k.mem hcd).2 hc) hcz
      exact absurd (by simpa using this) hcd
    · intro hh c hc hcz
      by_cases hcd : c.2 = d
      · simp [hcd]
      · exact absurd (hh c ((k.mem hcd).1 hc) hcz) (by simp)
  have hdb : d ∉ orderL F Pb := fun hm => by
    rcases has_iff.1 (((order_facts hb).2.1 d).1 hm) with h' | h'
    · exact hd h'
    · exact h.1 h'
  have goalB : ((orderL F Pb).filter (liveB Pa Ca [d])) = (orderL F Pb).filter (liveB Pb Cb []) :=
    List.filter_congr fun z hz => live z (fun e => hdb (e ▸ hz))
  rcases h.2 with he | ⟨X, Y, b, e1, e2⟩
  · have goalB' := goalB
    rw [← goalB', he]
  · have hm : (b, d) ∈ Pa := by rw [e1]; simp
    have hin : insS F Pb b d = 0 := by
      have hd0 : d ≠ (0, 0) := fun e => ha.pnz (by rw [← e]; exact List.mem_map.2 ⟨(b, d), hm, rfl⟩)
      have hn : Proofs.Ytgmlhpkhecbkoaa.has F Pb d = false := by
        cases hh : Proofs.Ytgmlhpkhecbkoaa.has F Pb d with
        | false => rfl
        | true => exact absurd (((order_facts hb).2.1 d).2 hh) hdb
      have hbb : ¬ (b ≠ (0, 0) ∧ Proofs.Ytgmlhpkhecbkoaa.has F Pb b = false) := by
        rintro ⟨hb0, hb1⟩
        have := ha.beh X.length (b, d) (by rw [e1]; simp)
        rw [e1, List.take_left' rfl] at this
        have hx : Proofs.Ytgmlhpkhecbkoaa.has F Pb b = true := by
          rcases this with h' | h' | h'
          · exact absurd h' hb0
          · exact has_iff.2 (.inl h')
          · refine has_iff.2 (.inr ?_)
            rw [e2, List.map_append]
            exact List.mem_append.2 (.inl h')
        rw [hx] at hb1; cases hb1
      unfold insS
      rw [if_neg hd0, if_neg (by rw [hn]; decide), if_neg hbb, if_neg (by omega)]
    have hs : orderL F Pa = orderL F (Pb ++ [(b, d)]) := order_set ha (hb.snoc hin) (fun p => by
      rw [e1, e2]
      simp only [List.mem_append, List.mem_cons, List.not_mem_nil, or_false]
      constructor
      · rintro (h | h | h)
        · exact .inl (.inl h)
        · exact .inr h
        · exact .inl (.inr h)
      · rintro ((h | h) | h)
        · exact .inl h
        · exact .inr (.inr h)
        · exact .inr (.inl h))
    have hmore := order_more hb hin
    rw [hs, ← goalB, ← hmore, List.filter_filter]
    refine List.filter_congr fun z _ => ?_
    by_cases hz : z = d
    · subst hz
      have : liveB Pa Ca [z] z = false := by
        unfold liveB insB
        rw [decide_eq_true (List.mem_map.2 ⟨(b, z), hm, rfl⟩ : z ∈ Pa.map Prod.snd), decide_eq_true (by simp : z ∈ [z])]
        rfl
      rw [this]; rfl
    · simp [hz]
end
end Go.Proofs.Ytgmlhpkhecbkoaa
namespace Go.Proofs.Ytgmlhpkhecbkoaa
open Go.RowKit Go.Shelf

def actCells (a : ActD) : List Value := [.bool a.cut, .int .i64 a.at'.1, .int .i64 a.at'.2, .int .i64 a.id.1, .int .i64 a.id.2]
theorem ManyR.acts {w : World} {own : Tags} {t : Nat} {A : Option Addr} {l : List ActD} (h : ManyR actCells 5 w own t A l) (hl : l ≠ []) : ∃ b off, A = some ⟨b, off, none⟩ ∧ own b = t ∧ b < w.heap.size ∧ ∀ i (h : i < l.length), w.cell? ⟨b, off + i * 5, none⟩ = some (.bool l[i].cut) ∧ w.cell? ⟨b, off + i * 5 + 1, none⟩ = some (.int .i64 l[i].at'.1) ∧ w.cell? ⟨b, off + i * 5 + 2, none⟩ = some (.int .i64 l[i].at'.2) ∧ w.cell? ⟨b, off + i * 5 + 3, none⟩ = some (.int .i64 l[i].id.1) ∧ w.cell? ⟨b, off + i * 5 + 4, none⟩ = some (.int .i64 l[i].id.2) := by
  obtain ⟨b, off, hA, ho, hb, hc⟩ := h hl
  exact ⟨b, off, hA, ho, hb, fun i hi => ⟨hc i hi 0 _ rfl, hc i hi 1 _ rfl, hc i hi 2 _ rfl, hc i hi 3 _ rfl, hc i hi 4 _ rfl⟩⟩
/-- Nothing hangs on the deed, among the first j acts. -/
def ApartTo (ids0 : List Id) (ps : List ActD) (kk : Nat) (dd : Id) (j : Nat) : Prop := ∀ i, i < j → ∀ a, ps[i]? = some a → a.at' ≠ dd ∧ (i ≠ kk → a.id ≠ dd) ∧ a.id ∉ ids0
theorem ApartTo.step {ids0 : List Id} {ps : List ActD} {kk : Nat} {dd : Id} {j : Nat} {a : ActD} (h : ApartTo ids0 ps kk dd j) (hj : ps[j]? = some a) (h1 : a.at' ≠ dd) (h2 : j ≠ kk → a.id ≠ dd) (h3 : a.id ∉ ids0) : ApartTo ids0 ps kk dd (j + 1) := fun i hi b hb => by
  by_cases hij : i < j
  · exact h i hij b hb
  · have : i = j := by omega
    subst this
    have : b = a := Option.some.inj (hb.symm.trans hj)
    subst this
    exact ⟨h1, h2, h3⟩
structure Lens (Pa Ca Pb Cb : List (Id × Id)) (k : Nat) : Prop where
  a : Pa.length ≤ k
  c : Ca.length ≤ k
  b : Pb.length ≤ k
  d : Cb.length ≤ k
/-- How the two axes stand to each other behind k acts. -/
structure GR (dd : Id) (kk k : Nat) (Pa Ca Pb Cb : List (Id × Id)) : Prop where
  p : Less dd Pa Pb
  c : Less dd Ca Cb
  eq : k ≤ kk → Pa = Pb ∧ Ca = Cb
  lens : Lens Pa Ca Pb Cb k
theorem actP_len (F : List Id) (P : List (Id × Id)) (a : ActD) : (actP F P a).length ≤ P.length + 1 := by
  unfold actP insPuts
  split
  · omega
  · split
    · simp
    · omega
theorem actC_len (F : List Id) (P C : List (Id × Id)) (a : ActD) : (actC F P C a).length ≤ C.length + 1 := by
  unfold actC cutCuts
  split
  · split
    · simp
    · omega
  · omega
section
variable {FI : List Id} {dd : Id} {kk k : Nat} {Pa Ca Pb Cb : List (Id × Id)} {a : ActD}
theorem GR.step (h : GR dd kk k Pa Ca Pb Cb) (h1 : a.at' ≠ dd) (h2 : a.id ≠ dd) (hl : FI.length + k < 1000) : GR dd kk (k + 1) (actP FI Pa a) (actC FI Pa Ca a) (actP FI Pb a) (actC FI Pb Cb a) := by
  have l1 := actP_len FI Pa a
  have l2 := actC_len FI Pa Ca a
  have l3 := actP_len FI Pb a
  have l4 := actC_len FI Pb Cb a
  obtain ⟨m1, m2, m3, m4⟩ := h.lens
  refine ⟨h.p.actP h1 h2 (by omega), h.p.actC h.c h1 h2, fun hk' => ?_, ⟨by omega, by omega, by omega, by omega⟩⟩
  obtain ⟨e1, e2⟩ := h.eq (by omega)
  rw [e1, e2]
  exact ⟨rfl, rfl⟩
theorem GR.mid (h : GR dd kk kk Pa Ca Pb Cb) (ha : a.id = dd) : GR dd kk (kk + 1) (actP FI Pa a) (actC FI Pa Ca a) Pb Cb := by
  have l1 := actP_len FI Pa a
  have l2 := actC_len FI Pa Ca a
  obtain ⟨m1, m2, m3, m4⟩ := h.lens
  obtain ⟨e1, e2⟩ := h.eq (Nat.le_refl _)
  refine ⟨?_, ?_, fun hk' => by omega, ⟨by omega, by omega, by omega, by omega⟩⟩
  · rw [e1]; exact Less.first h.p.1 ha
  · rw [e2]; exact Less.firstC h.c.1 ha
end
/-- What SeqcGone holds in its second loop. -/
structure GS (w : World) (qa qb : Nat) (FI : List Id) (ps : List ActD) (D : Option Addr) (Bd : Nat) (d1 d2 : Int) (Pa Ca Pb Cb : List (Id × Id)) (ow : Tags) (wr : World) : Prop where
  clean : Clean w ow wr
  a : ShAt wr ow 1 qa FI Pa Ca
  b : ShAt wr ow 2 qb FI Pb Cb
  d : ManyR actCells 5 wr ow 0 D ps
  bd : Box wr ow Bd 24 #[.int .i64 d1, .int .i64 d2]
section
variable {w wr wr' : World} {qa qb : Nat} {FI : List Id} {ps : List ActD} {D : Option Addr} {Bd : Nat} {d1 d2 : Int} {Pa Ca Pb Cb P' C' : List (Id × Id)} {ow ow' : Tags}
theorem GS.next (h : GS w qa qb FI ps D Bd d1 d2 Pa Ca Pb Cb ow wr) (k : Below wr.heap.size wr wr') : GS w qa qb FI ps D Bd d1 d2 Pa Ca Pb Cb ow wr' :=
  ⟨h.clean.next k, h.a.next k, h.b.next k, h.d.keep k.size (Same.below k), h.bd.next k⟩
theorem GS.actA (h : GS w qa qb FI ps D Bd d1 d2 Pa Ca Pb Cb ow wr) (k : Tr ow 1 wr ow' wr') (s : ShAt wr' ow' 1 qa FI P' C') : GS w qa qb FI ps D Bd d1 d2 P' C' Pb Cb ow' wr' :=
  ⟨h.clean.tr k (by decide), s, h.b.other k (by decide), h.d.keep k.size (k.toSame (by decide)), h.bd.tr k (by decide)⟩
theorem GS.actB (h : GS w qa qb FI ps D Bd d1 d2 Pa Ca Pb Cb ow wr) (k : Tr ow 2 wr ow' wr') (s : ShAt wr' ow' 2 qb FI P' C') : GS w qa qb FI ps D Bd d1 d2 Pa Ca P' C' ow' wr' :=
  ⟨h.clean.tr k (by decide), h.a.other k (by decide), s, h.d.keep k.size (k.toSame (by decide)), h.bd.tr k (by decide)⟩
end
set_option maxRecDepth 100000 in
set_option maxHeartbeats 8000000 in
theorem gone_few (A D : Option Addr) (n c m d : Nat) (ids0 : List Id) (ps : List ActD) (u : Nat) (w : World) (hR : IdsR w (fun _ => 0) 0 A ids0) (hn : ids0.length = n) (hD : ManyR actCells 5 w (fun _ => 0) 0 D ps) (hm : ps.length = m) (h1 : n ≤ 12) (h2 : m ≤ 12) (h0 : 0 < m) (hu : u < 256) :
    Calls Try.prog 14 #[.slice A n c, .slice D m d, .int .u8 u] w fun e w' => e = .returned (.bool true) ∧ Below w.heap.size w w' := by
  have hn' := Lib.hid hn
  have hm' := Lib.hid hm
  have HR := Lib.hid hR
  have HD := Lib.hid hD
  clear hn hm hR hD
  have q1 : ¬ ((12 : Int) < (n : Int)) := by omega
  have q2 : ¬ ((12 : Int) < (m : Int)) := by omega
  have q3 : ((m : Int) == 0) = false := by rw [beq_eq_false_iff_ne]; omega
  go_enter Try.func14, Try.ntmps14
  go_wp2_with fail
  refine (awake24_c _).mono ?_
  rintro e w1 ⟨rfl, hB⟩
  have K1 := Lib.hid ((Clean.start w).next hB)
  have HR1 := Lib.hid (HR.out.keep K1.out.below.size (Same.below K1.out.below))
  have HD1 := Lib.hid (HD.out.keep K1.out.below.size (Same.below K1.out.below))
  clear hB HR HD
  obtain ⟨kk, hkk⟩ : ∃ kk : Nat, kk = u % m := ⟨_, rfl⟩
  have hkm : kk < m := by have := Nat.mod_lt u (show 0 < m by omega); omega
  have ee : (u : Int) % (m : Int) = (kk : Int) := by rw [hkk]; simp
  clear hkk
  have hkl0 : kk < ps.length := by rw [hm'.out]; exact hkm
  obtain ⟨b1, o1, rfl, _, _, hc1⟩ := HD1.out.acts (fun e => by rw [e] at hkl0; simp at hkl0)
  obtain ⟨_, _, _, g3, g4⟩ := hc1 kk hkl0
  have EK := Lib.hid (List.getElem?_eq_getElem hkl0)
  clear hc1
  generalize ps[kk] = z at *
  obtain ⟨zc, za, ⟨d1, d2⟩⟩ := z
  dsimp only at g3 g4
  have k1 : (0 : Int) ≤ (kk : Int) := by omega
  have k2 : (kk : Int) < (m : Int) := by omega
  have K2 := Lib.hid (K1.out.alloc (.cells #[.int .i64 d1, .int .i64 d2] 24))
  have bl : Below w1.heap.size w1 (w1.alloc (.cells #[.int .i64 d1, .int .i64 d2] 24)) := (Below.refl _ _).alloc (Nat.le_refl _) _
  have HR2 := Lib.hid (HR1.out.belowTo bl)
  have HD2 := Lib.hid (HD1.out.keep bl.size (Same.below bl))
  have Q2 := Lib.hid (Box.new K1.out.fresh 24 #[.int .i64 d1, .int .i64 d2])
  clear K1 HR1 HD1 bl
  go_wp2_with fail
  rw [ee]
  clear g3 g4 ee q3
  generalize w1.alloc (.cells #[.int .i64 d1, .int .i64 d2] 24) = V2 at *
  generalize w1.heap.size = Bd at *
  go_loopw [9] (fun i wr => ∃ (j : Nat), j ≤ m ∧ i = .int .i64 j ∧ Hid (ApartTo ids0 ps kk (d1, d2) j) ∧ Hid (Below V2.heap.size V2 wr)) (fun i _ => m - (intOf i).toNat)
  case atStart => exact ⟨0, Nat.zero_le _, rfl, (fun i hi => absurd hi (by omega)), Below.refl _ _⟩
  case round =>
    obtain ⟨j, hj, rfl, hap, hbel⟩ := hrel
    by_cases hlt : j < m
    · have hj0 : (0 : Int) ≤ (j : Int) := by omega
      have hjn : (j : Int) < (m : Int) := by omega
      have hjl : j < ps.length := by rw [hm'.out]; exact hlt
      obtain ⟨b2, o2, hAA, ho2, _, hc2⟩ := (HD2.out.keep hbel.out.size (Same.below hbel.out)).acts (fun e => by rw [e] at hjl; simp at hjl)
      cases hAA
      obtain ⟨_, g1, g2, g3, g4⟩ := hc2 j hjl
      have EZ := Lib.hid (List.getElem?_eq_getElem hjl)
      clear hc2
      generalize ps[j] = z at *
      obtain ⟨zc, ⟨x1, x2⟩, ⟨y1, y2⟩⟩ := z
      dsimp only at g1 g2 g3 g4
      have QB := Q2.out.next hbel.out
      have c0 := QB.blk.cell 0
      have c1 := QB.blk.cell 1
      simp only [List.getElem?_toArray, List.getElem?_cons_zero, List.getElem?_cons_succ] at c0 c1
      have C0 := Lib.hid (Kept.cons (own := fun _ => 0) (T := [0]) g1 (by simp) (Kept.cons g2 (by simp) (Kept.cons g3 (by simp) (Kept.cons g4 (by simp) (Kept.cons c0 (by simp) (Kept.cons c1 (by simp) Kept.nil))))))
      clear g1 g2 g3 g4 c0 c1 QB ho2
      have BD := Lib.hid (hbel.out.trans (((Below.refl _ wr).drew).mono hbel.out.size))
      have HIN := Lib.hid (in36_c A n c ids0 y1 y2 wr.drew (fun _ => 0) 0 (HR2.out.belowTo BD.out) hn'.out (by omega))
      cases hq : ideq x1 x2 d1 d2
      · have Hq := Lib.hid (ideq_false.1 hq)
        by_cases hjk : j = kk
        · subst hjk
          go_wp2_with fail
          refine region_free _ [0, 1, 2, 3, 4, 5, 6, 7, 8, 9, 10, 11, 12, 13, 14, 15, 16, 17, 18, 19, 20, 21, 22, 23, 24, 25, 26, 27] 2 (by kernel_rfl) (by kernel_rfl) (by kernel_rfl) (by kernel_rfl) (by kernel_rfl) (fun _ _ _ _ _ h => h) C0.out.drew.1 ?_
          intro hne hu
          simp only [AllCells] at hu
          simp only [pick, List.take_succ_cons, List.take_zero, List.drop_succ_cons, List.drop_zero, List.cons_append, List.nil_append]
          repeat (go_big_quiet_step (fail))
          refine wpQuiet_nil ?_
          clear hne hu
          refine anyN_oneL 28 (by kernel_rfl) ?_
          simp only [List.take_succ_cons, List.take_zero, List.drop_succ_cons, List.drop_zero]
          go_wp2_with fail
          refine HIN.out.mono ?_
          rintro e w3 ⟨rfl, hb3⟩
          have C1 := Lib.hid (C0.out.drew.next hb3)
          have B3 := Lib.hid (BD.out.trans (hb3.mono BD.out.size))
          obtain ⟨q, hqi⟩ : ∃ q, decide ((y1, y2) ∈ ids0) = q := ⟨_, rfl⟩
          rw [hqi]
          have HQ := Lib.hid hqi
          clear hqi hb3 HIN
          go_wp2_with fail
          refine And.intro (fun _ => C1.out.1) ?_
          cases q
          · refine anyN_oneL 29 (by kernel_rfl) ?_
            simp only [List.take_succ_cons, List.take_zero, List.drop_succ_cons, List.drop_zero]
            go_wp2_with fail
            refine And.intro (fun _ => C1.out.1) ?_
            refine ⟨by kernel_rfl, ?_⟩
            go_wp2_with fail
            go_roundw
            case rel => exact ⟨j + 1, by omega, by go_num, hap.out.step EZ.out (fun e => by simp only [Prod.mk.injEq] at e; exact Hq.out e) (fun h => absurd rfl h) (of_decide_eq_false HQ.out), B3.out⟩
            case measure => simp [intOf]; omega
          · refine anyN_oneL 29 (by kernel_rfl) ?_
            simp only [List.take_succ_cons, List.take_zero, List.drop_succ_cons, List.drop_zero]
            go_wp2_with fail
            refine And.intro (fun _ => C1.out.1) ?_
            refine ⟨by kernel_rfl, ?_⟩
            go_wp2_with fail
            go_ret
            exact ⟨rfl, (K2.out.next B3.out).below⟩
        · have HJ : Hid (((j : Int) != (kk : Int)) = true) := by show _ = _; rw [bne_iff_ne]; omega
          cases hq2 : ideq y1 y2 d1 d2
          · have Hq2 := Lib.hid (ideq_false.1 hq2)
            go_wp2_with fail
            refine region_free _ [0, 1, 2, 3, 4, 5, 6, 7, 8, 9, 10, 11, 12, 13, 14, 15, 16, 17, 18, 19, 20, 21, 22, 23, 24, 25, 26, 27] 2 (by kernel_rfl) (by kernel_rfl) (by kernel_rfl) (by kernel_rfl) (by kernel_rfl) (fun _ _ _ _ _ h => h) C0.out.drew.1 ?_
            intro hne hu
            simp only [AllCells] at hu
            simp only [pick, List.take_succ_cons, List.take_zero, List.drop_succ_cons, List.drop_zero, List.cons_append, List.nil_append]
            repeat (go_big_quiet_step (fail))
            rw [HJ.out]
            repeat (go_big_quiet_step (fail))
            refine wpQuiet_nil ?_
            clear hne hu
            refine anyN_oneL 28 (by kernel_rfl) ?_
            simp only [List.take_succ_cons, List.take_zero, List.drop_succ_cons, List.drop_zero]
            go_wp2_with fail
            refine HIN.out.mono ?_
            rintro e w3 ⟨rfl, hb3⟩
            have C1 := Lib.hid (C0.out.drew.next hb3)
            have B3 := Lib.hid (BD.out.trans (hb3.mono BD.out.size))
            obtain ⟨q, hqi⟩ : ∃ q, decide ((y1, y2) ∈ ids0) = q := ⟨_, rfl⟩
            rw [hqi]
            have HQ := Lib.hid hqi
            clear hqi hb3 HIN
            go_wp2_with fail
            refine And.intro (fun _ => C1.out.1) ?_
            cases q
            · refine anyN_oneL 29 (by kernel_rfl) ?_
              simp only [List.take_succ_cons, List.take_zero, List.drop_succ_cons, List.drop_zero]
              go_wp2_with fail
              refine And.intro (fun _ => C1.out.1) ?_
              refine ⟨by kernel_rfl, ?_⟩
              go_wp2_with fail
              go_roundw
              case rel => exact ⟨j + 1, by omega, by go_num, hap.out.step EZ.out (fun e => by simp only [Prod.mk.injEq] at e; exact Hq.out e) (fun _ e => by simp only [Prod.mk.injEq] at e; exact Hq2.out e) (of_decide_eq_false HQ.out), B3.out⟩
              case measure => simp [intOf]; omega
            · refine anyN_oneL 29 (by kernel_rfl) ?_
              simp only [List.take_succ_cons, List.take_zero, List.drop_succ_cons, List.drop_zero]
              go_wp2_with fail
              refine And.intro (fun _ => C1.out.1) ?_
              refine ⟨by kernel_rfl, ?_⟩
              go_wp2_with fail
              go_ret
              exact ⟨rfl, (K2.out.next B3.out).below⟩
          · go_wp2_with fail
            refine region_free _ [0, 1, 2, 3, 4, 5, 6, 7, 8, 9, 10, 11, 12, 13, 14, 15, 16, 17, 18, 19, 20, 21, 22, 23, 24, 25, 26, 27] 2 (by kernel_rfl) (by kernel_rfl) (by kernel_rfl) (by kernel_rfl) (by kernel_rfl) (fun _ _ _ _ _ h => h) C0.out.drew.1 ?_
            intro hne hu
            simp only [AllCells] at hu
            simp only [pick, List.take_succ_cons, List.take_zero, List.drop_succ_cons, List.drop_zero, List.cons_append, List.nil_append]
            repeat (go_big_quiet_step (fail))
            rw [HJ.out]
            repeat (go_big_quiet_step (fail))
            refine wpQuiet_nil ?_
            clear hne hu
            refine anyN_oneL 28 (by kernel_rfl) ?_
            simp only [List.take_succ_cons, List.take_zero, List.drop_succ_cons, List.drop_zero]
            go_wp2_with fail
            refine And.intro (fun _ => C0.out.drew.1) ?_
            refine anyN_oneL 29 (by kernel_rfl) ?_
            simp only [List.take_succ_cons, List.take_zero, List.drop_succ_cons, List.drop_zero]
            go_wp2_with fail
            refine And.intro (fun _ => C0.out.drew.1) ?_
            refine ⟨by kernel_rfl, ?_⟩
            go_wp2_with fail
            go_ret
            exact ⟨rfl, (K2.out.next BD.out).below⟩
      · go_wp2_with fail
        refine region_free _ [0, 1, 2, 3, 4, 5, 6, 7, 8, 9, 10, 11, 12, 13, 14, 15, 16, 17, 18, 19, 20, 21, 22, 23, 24, 25, 26, 27] 2 (by kernel_rfl) (by kernel_rfl) (by kernel_rfl) (by kernel_rfl) (by kernel_rfl) (fun _ _ _ _ _ h => h) C0.out.drew.1 ?_
        intro hne hu
        simp only [AllCells] at hu
        simp only [pick, List.take_succ_cons, List.take_zero, List.drop_succ_cons, List.drop_zero, List.cons_append, List.nil_append]
        repeat (go_big_quiet_step (fail))
        refine wpQuiet_nil ?_
        clear hne hu
        refine anyN_oneL 28 (by kernel_rfl) ?_
        simp only [List.take_succ_cons, List.take_zero, List.drop_succ_cons, List.drop_zero]
        go_wp2_with fail
        refine And.intro (fun _ => C0.out.drew.1) ?_
        refine anyN_oneL 29 (by kernel_rfl) ?_
        simp only [List.take_succ_cons, List.take_zero, List.drop_succ_cons, List.drop_zero]
        go_wp2_with fail
        refine And.intro (fun _ => C0.out.drew.1) ?_
        refine ⟨by kernel_rfl, ?_⟩
        go_wp2_with fail
        go_ret
        exact ⟨rfl, (K2.out.next BD.out).below⟩
    · have hjj : j = m := by omega
      subst hjj
      have hjn : ¬ ((j : Int) < (j : Int)) := by omega
      have K3 := Lib.hid (K2.out.next hbel.out)
      have HR3 := Lib.hid (HR2.out.belowTo hbel.out)
      have HD3 := Lib.hid (HD2.out.keep hbel.out.size (Same.below hbel.out))
      have Q3 := Lib.hid (Q2.out.next hbel.out)
      have HAP := Lib.hid hap.out
      clear hap hbel K2 HR2 HD2 Q2
      go_wp2_with fail
      refine (snew_c A n c ids0 wr (fun _ => 0) 0 1 HR3.out hn'.out (by simp [maxLen]; omega) (by decide) K3.out.fresh (by decide)).mono ?_
      rintro e w3 ⟨own3, qa, rfl, tr3, a3⟩
      have K4 := Lib.hid (K3.out.tr tr3 (by decide))
      have D4 := Lib.hid (HD3.out.keep tr3.size (tr3.toSame (by decide)))
      have HR4 := Lib.hid (HR3.out.keep tr3.size (tr3.toSame (by decide)))
      have Q4 := Lib.hid (Q3.out.tr tr3 (by decide))
      have A4 := Lib.hid a3
      clear K3 HR3 HD3 tr3 a3 Q3
      go_wp2_with fail
      refine (snew_c A n c ids0 w3 own3 0 2 HR4.out hn'.out (by simp [maxLen]; omega) (by decide) K4.out.fresh (by decide)).mono ?_
      rintro e w4 ⟨own4, qb, rfl, tr4, a4⟩
      have S4 : Hid (GS w qa qb (newL ids0) ps (some ⟨b1, o1, none⟩) Bd d1 d2 [] [] [] [] own4 w4) := ⟨K4.out.tr tr4 (by decide), A4.out.other tr4 (by decide), a4, D4.out.keep tr4.size (tr4.toSame (by decide)), Q4.out.tr tr4 (by decide)⟩
      clear K4 HR4 D4 A4 tr4 a4 Q4
      have hF : ∀ k, k < 100 → (newL ids0).length + k < 1000 := fun k hk => by
        have := newL_len ids0
        rw [hn'.out] at this
        omega
      have HNI : Hid ((d1, d2) ∉ newL ids0) := fun hm => (HAP.out kk hkm _ EK.out).2.2 (newL_sub ids0 _ hm)
      generalize newL ids0 = FI at *
      go_wp2_with fail
      go_loopw [12] (fun i wr => ∃ (k : Nat) (ow : Tags) (Pa Ca Pb Cb : List (Id × Id)), k ≤ j ∧ i = .int .i64 k ∧ Hid (GR (d1, d2) kk k Pa Ca Pb Cb) ∧ Hid (GS w qa qb FI ps (some ⟨b1, o1, none⟩) Bd d1 d2 Pa Ca Pb Cb ow wr)) (fun i _ => j - (intOf i).toNat)
      case atStart => exact ⟨0, own4, [], [], [], [], Nat.zero_le _, rfl, ⟨⟨by simp, .inl rfl⟩, ⟨by simp, .inl rfl⟩, fun _ => ⟨rfl, rfl⟩, ⟨by simp, by simp, by simp, by simp⟩⟩, S4.out⟩
      case round =>
        clear S4
        obtain ⟨k, ow, Pa, Ca, Pb, Cb, hk, rfl, HG, hS⟩ := hrel
        by_cases hlt : k < j
        · have hF := hF k (by omega)
          have hk0 : (0 : Int) ≤ (k : Int) := by omega
          have hkn : (k : Int) < (j : Int) := by omega
          have hkl : k < ps.length := by rw [hm'.out]; exact hlt
          obtain ⟨⟨zc, ⟨x1, x2⟩, ⟨y1, y2⟩⟩, hz⟩ : ∃ z, ps[k] = z := ⟨_, rfl⟩
          have EZ2 := Lib.hid ((List.getElem?_eq_getElem hkl).trans (congrArg some hz))
          have EZ := Lib.hid hz
          clear hz
          have HD1 : Hid (k = kk → (y1, y2) = (d1, d2)) := fun e => by
            subst e
            have := Option.some.inj (EZ2.out.symm.trans EK.out)
            simp only [ActD.mk.injEq] at this
            exact this.2.2
          cases zc
          · skip
            obtain ⟨b5, o5, hAA5, ho5, _, hc5⟩ := hS.out.d.acts (fun e => by rw [e] at hkl; simp at hkl)
            cases hAA5
            obtain ⟨g0, g1, g2, g3, g4⟩ := hc5 k hkl
            rw [EZ.out] at g0 g1 g2 g3 g4
            dsimp only at g0 g1 g2 g3 g4
            clear hc5
            have C0 := Lib.hid (Kept.cons (own := ow) (T := [0]) g1 (by simp [ho5]) (Kept.cons g2 (by simp [ho5]) (Kept.cons g3 (by simp [ho5]) (Kept.cons g4 (by simp [ho5]) Kept.nil))))
            have D0 := Lib.hid (hS.out.next ((Below.refl _ wr).drew))
            have HIN := Lib.hid (sinsert_c wr.drew ow 1 qa FI Pa Ca x1 x2 y1 y2 D0.out.a D0.out.clean.fresh (by decide))
            clear ho5 hS
            go_wp2_with fail
            refine region_free _ [0, 1, 2, 3, 4, 5, 6, 7, 8, 9, 10] 1 (by kernel_rfl) (by kernel_rfl) (by kernel_rfl) (by kernel_rfl) (by kernel_rfl) (fun _ _ _ _ _ h => h) C0.out.drew.1 ?_
            intro hne hu
            simp only [AllCells] at hu
            simp only [pick, List.take_succ_cons, List.take_zero, List.drop_succ_cons, List.drop_zero, List.cons_append, List.nil_append]
            repeat (go_big_quiet_step (fail))
            refine wpQuiet_nil ?_
            clear hne hu g0 g1 g2 g3 g4
            refine anyN_oneL 11 (by kernel_rfl) ?_
            simp only [List.take_succ_cons, List.take_zero, List.drop_succ_cons, List.drop_zero]
            go_wp2_with fail
            refine HIN.out.mono ?_
            rintro e w5 ⟨rfl, ow5, tr5, sh5⟩
            have C1 := Lib.hid (C0.out.drew.tr tr5 (by decide))
            have S5 := Lib.hid (D0.out.actA tr5 sh5)
            clear tr5 sh5 HIN C0 D0
            go_wp2_with fail
            refine And.intro (fun _ => C1.out.1) ?_
            refine ⟨by kernel_rfl, ?_⟩
            clear C1
            by_cases hjk : k = kk
            · subst hjk
              go_wp2_with fail
              go_roundw
              case rel => exact ⟨k + 1, ow5, (insPuts FI Pa (x1, x2) (y1, y2)), Ca, Pb, Cb, by omega, by go_num, HG.out.mid (FI := FI) (a := ⟨false, (x1, x2), (y1, y2)⟩) (HD1.out rfl), S5.out⟩
              case measure => simp [intOf]; omega
            · have hjk' : ¬ ((k : Int) = (kk : Int)) := by omega
              obtain ⟨b7, o7, hAA7, _, _, hc7⟩ := S5.out.d.acts (fun e => by rw [e] at hkl; simp at hkl)
              cases hAA7
              obtain ⟨g0, _⟩ := hc7 k hkl
              rw [EZ.out] at g0
              dsimp only at g0
              clear hc7
              obtain ⟨b6, o6, hAA6, ho6, _, hc6⟩ := S5.out.d.acts (fun e => by rw [e] at hkl; simp at hkl)
              cases hAA6
              obtain ⟨g0, g1, g2, g3, g4⟩ := hc6 k hkl
              rw [EZ.out] at g0 g1 g2 g3 g4
              dsimp only at g0 g1 g2 g3 g4
              clear hc6
              have C0 := Lib.hid (Kept.cons (own := ow5) (T := [0]) g1 (by simp [ho6]) (Kept.cons g2 (by simp [ho6]) (Kept.cons g3 (by simp [ho6]) (Kept.cons g4 (by simp [ho6]) Kept.nil))))
              have D0 := Lib.hid (S5.out.next ((Below.refl _ w5).drew))
              have HIN := Lib.hid (sinsert_c w5.drew ow5 2 qb FI Pb Cb x1 x2 y1 y2 D0.out.b D0.out.clean.fresh (by decide))
              clear ho6 S5
              go_wp2_with fail
              refine region_free _ [0, 1, 2, 3, 4, 5, 6, 7, 8, 9, 10] 1 (by kernel_rfl) (by kernel_rfl) (by kernel_rfl) (by kernel_rfl) (by kernel_rfl) (fun _ _ _ _ _ h => h) C0.out.drew.1 ?_
              intro hne hu
              simp only [AllCells] at hu
              simp only [pick, List.take_succ_cons, List.take_zero, List.drop_succ_cons, List.drop_zero, List.cons_append, List.nil_append]
              repeat (go_big_quiet_step (fail))
              refine wpQuiet_nil ?_
              clear hne hu g0 g1 g2 g3 g4
              refine anyN_oneL 11 (by kernel_rfl) ?_
              simp only [List.take_succ_cons, List.take_zero, List.drop_succ_cons, List.drop_zero]
              go_wp2_with fail
              refine HIN.out.mono ?_
              rintro e w6 ⟨rfl, ow6, tr6, sh6⟩
              have C1 := Lib.hid (C0.out.drew.tr tr6 (by decide))
              have S6 := Lib.hid (D0.out.actB tr6 sh6)
              clear tr6 sh6 HIN C0 D0
              go_wp2_with fail
              refine And.intro (fun _ => C1.out.1) ?_
              refine ⟨by kernel_rfl, ?_⟩
              clear C1
              go_wp2_with fail
              go_roundw
              case rel => exact ⟨k + 1, ow6, (insPuts FI Pa (x1, x2) (y1, y2)), Ca, (insPuts FI Pb (x1, x2) (y1, y2)), Cb, by omega, by go_num, HG.out.step (FI := FI) (a := ⟨false, (x1, x2), (y1, y2)⟩) (HAP.out k hlt _ EZ2.out).1 ((HAP.out k hlt _ EZ2.out).2.1 hjk) hF, S6.out⟩
              case measure => simp [intOf]; omega
          · skip
            obtain ⟨b5, o5, hAA5, ho5, _, hc5⟩ := hS.out.d.acts (fun e => by rw [e] at hkl; simp at hkl)
            cases hAA5
            obtain ⟨g0, g1, g2, g3, g4⟩ := hc5 k hkl
            rw [EZ.out] at g0 g1 g2 g3 g4
            dsimp only at g0 g1 g2 g3 g4
            clear hc5
            have C0 := Lib.hid (Kept.cons (own := ow) (T := [0]) g1 (by simp [ho5]) (Kept.cons g2 (by simp [ho5]) (Kept.cons g3 (by simp [ho5]) (Kept.cons g4 (by simp [ho5]) Kept.nil))))
            have D0 := Lib.hid (hS.out.next ((Below.refl _ wr).drew))
            have HIN := Lib.hid (sdelete_c wr.drew ow 1 qa FI Pa Ca x1 x2 y1 y2 D0.out.a D0.out.clean.fresh (by decide) (by have := HG.out.lens.c; omega))
            clear ho5 hS
            go_wp2_with fail
            refine region_free _ [0, 1, 2, 3, 4, 5, 6, 7, 8, 9, 10] 1 (by kernel_rfl) (by kernel_rfl) (by kernel_rfl) (by kernel_rfl) (by kernel_rfl) (fun _ _ _ _ _ h => h) C0.out.drew.1 ?_
            intro hne hu
            simp only [AllCells] at hu
            simp only [pick, List.take_succ_cons, List.take_zero, List.drop_succ_cons, List.drop_zero, List.cons_append, List.nil_append]
            repeat (go_big_quiet_step (fail))
            refine wpQuiet_nil ?_
            clear hne hu g0 g1 g2 g3 g4
            refine anyN_oneL 11 (by kernel_rfl) ?_
            simp only [List.take_succ_cons, List.take_zero, List.drop_succ_cons, List.drop_zero]
            go_wp2_with fail
            refine HIN.out.mono ?_
            rintro e w5 ⟨rfl, ow5, tr5, sh5⟩
            have C1 := Lib.hid (C0.out.drew.tr tr5 (by decide))
            have S5 := Lib.hid (D0.out.actA tr5 sh5)
            clear tr5 sh5 HIN C0 D0
            go_wp2_with fail
            refine And.intro (fun _ => C1.out.1) ?_
            refine ⟨by kernel_rfl, ?_⟩
            clear C1
            by_cases hjk : k = kk
            · subst hjk
              go_wp2_with fail
              go_roundw
              case rel => exact ⟨k + 1, ow5, Pa, (cutCuts FI Pa Ca (x1, x2) (y1, y2)), Pb, Cb, by omega, by go_num, HG.out.mid (FI := FI) (a := ⟨true, (x1, x2), (y1, y2)⟩) (HD1.out rfl), S5.out⟩
              case measure => simp [intOf]; omega
            · have hjk' : ¬ ((k : Int) = (kk : Int)) := by omega
              obtain ⟨b7, o7, hAA7, _, _, hc7⟩ := S5.out.d.acts (fun e => by rw [e] at hkl; simp at hkl)
              cases hAA7
              obtain ⟨g0, _⟩ := hc7 k hkl
              rw [EZ.out] at g0
              dsimp only at g0
              clear hc7
              obtain ⟨b6, o6, hAA6, ho6, _, hc6⟩ := S5.out.d.acts (fun e => by rw [e] at hkl; simp at hkl)
              cases hAA6
              obtain ⟨g0, g1, g2, g3, g4⟩ := hc6 k hkl
              rw [EZ.out] at g0 g1 g2 g3 g4
              dsimp only at g0 g1 g2 g3 g4
              clear hc6
              have C0 := Lib.hid (Kept.cons (own := ow5) (T := [0]) g1 (by simp [ho6]) (Kept.cons g2 (by simp [ho6]) (Kept.cons g3 (by simp [ho6]) (Kept.cons g4 (by simp [ho6]) Kept.nil))))
              have D0 := Lib.hid (S5.out.next ((Below.refl _ w5).drew))
              have HIN := Lib.hid (sdelete_c w5.drew ow5 2 qb FI Pb Cb x1 x2 y1 y2 D0.out.b D0.out.clean.fresh (by decide) (by have := HG.out.lens.d; omega))
              clear ho6 S5
              go_wp2_with fail
              refine region_free _ [0, 1, 2, 3, 4, 5, 6, 7, 8, 9, 10] 1 (by kernel_rfl) (by kernel_rfl) (by kernel_rfl) (by kernel_rfl) (by kernel_rfl) (fun _ _ _ _ _ h => h) C0.out.drew.1 ?_
              intro hne hu
              simp only [AllCells] at hu
              simp only [pick, List.take_succ_cons, List.take_zero, List.drop_succ_cons, List.drop_zero, List.cons_append, List.nil_append]
              repeat (go_big_quiet_step (fail))
              refine wpQuiet_nil ?_
              clear hne hu g0 g1 g2 g3 g4
              refine anyN_oneL 11 (by kernel_rfl) ?_
              simp only [List.take_succ_cons, List.take_zero, List.drop_succ_cons, List.drop_zero]
              go_wp2_with fail
              refine HIN.out.mono ?_
              rintro e w6 ⟨rfl, ow6, tr6, sh6⟩
              have C1 := Lib.hid (C0.out.drew.tr tr6 (by decide))
              have S6 := Lib.hid (D0.out.actB tr6 sh6)
              clear tr6 sh6 HIN C0 D0
              go_wp2_with fail
              refine And.intro (fun _ => C1.out.1) ?_
              refine ⟨by kernel_rfl, ?_⟩
              clear C1
              go_wp2_with fail
              go_roundw
              case rel => exact ⟨k + 1, ow6, Pa, (cutCuts FI Pa Ca (x1, x2) (y1, y2)), Pb, (cutCuts FI Pb Cb (x1, x2) (y1, y2)), by omega, by go_num, HG.out.step (FI := FI) (a := ⟨true, (x1, x2), (y1, y2)⟩) (HAP.out k hlt _ EZ2.out).1 ((HAP.out k hlt _ EZ2.out).2.1 hjk) hF, S6.out⟩
              case measure => simp [intOf]; omega
        · have hkk : k = j := by omega
          subst hkk
          have hkn : ¬ ((k : Int) < (k : Int)) := by omega
          have HL := Lib.hid (gone_live hS.out.a.wf hS.out.b.wf HG.out.p HG.out.c HNI.out (by have := HG.out.lens.b; have := hF k (by omega); omega))
          have hca : Ca.length ≤ 1000 := by have := HG.out.lens.c; omega
          have hcb : Cb.length ≤ 1000 := by have := HG.out.lens.d; omega
          have hlb : ((orderL FI Pb).filter (liveB Pb Cb [])).length ≤ 1000 := Nat.le_trans (List.length_filter_le _ _) (by rw [(order_facts hS.out.b.wf).2.2]; exact hS.out.b.wf.len)
          have bl : Below wr.heap.size wr (wr.alloc (.cells #[.int .i64 d1, .int .i64 d2] 24)) := (Below.refl _ _).alloc (Nat.le_refl _) _
          have S5 := Lib.hid (hS.out.next bl)
          have I5 := Lib.hid (ids_one (Blk.new wr 24 #[.int .i64 d1, .int .i64 d2]))
          have c0 := hS.out.bd.blk.cell 0
          have c1 := hS.out.bd.blk.cell 1
          have lb := hS.out.bd.blk.lt
          simp only [List.getElem?_toArray, List.getElem?_cons_zero, List.getElem?_cons_succ] at c0 c1
          clear hS bl
          go_wp2_with fail
          clear c0 c1 lb
          refine (live56_c _ ow 1 qa FI Pa Ca S5.out.a hca (some ⟨wr.heap.size, 0, none⟩) 1 1 [(d1, d2)] I5.out rfl (by omega)).mono ?_
          rintro e w6 ⟨A6, c6, rfl, hB, hI⟩
          rw [HL.out] at hI ⊢
          have S6 := Lib.hid (S5.out.next hB)
          have I6 := Lib.hid hI
          clear S5 I5 hB hI HL
          go_wp2_with fail
          refine (live56_c w6 ow 2 qb FI Pb Cb S6.out.b hcb none 0 0 [] (ids_none _) rfl (by omega)).mono ?_
          rintro e w7 ⟨A7, c7, rfl, hB, hI⟩
          have S7 := Lib.hid (S6.out.next hB)
          have I7 := Lib.hid (I6.out.belowTo hB)
          have J7 := Lib.hid hI
          clear S6 I6 hB hI
          generalize (orderL FI Pb).filter (liveB Pb Cb []) = LB at *
          go_wp2_with fail
          refine (same28_c A6 A7 LB.length LB.length c6 c7 LB LB w7 (fun _ => 0) (fun _ => 0) 0 0 I7.out J7.out rfl rfl (by omega)).mono ?_
          rintro e w8 ⟨rfl, hB⟩
          rw [decide_eq_true rfl]
          have S8 := Lib.hid (S7.out.next hB)
          clear S7 hB I7 J7
          go_wp2_with fail
          go_ret
          exact ⟨rfl, S8.out.clean.below⟩

set_option maxRecDepth 100000 in
set_option maxHeartbeats 4000000 in
theorem gone_many (A D : Option Addr) (n c m d u : Nat) (w : World) (h : 12 < n ∨ m = 0 ∨ 12 < m) :
    Calls Try.prog 14 #[.slice A n c, .slice D m d, .int .u8 u] w fun e w' => e = .returned (.bool true) ∧ Below w.heap.size w w' := by
  go_enter Try.func14, Try.ntmps14
  go_wp2_with fail
  refine (awake24_c _).mono ?_
  rintro e w1 ⟨rfl, hB⟩
  have K1 := Lib.hid ((Clean.start w).next hB)
  clear hB
  by_cases h1 : 12 < n
  · have h2 : (12 : Int) < (n : Int) := by omega
    clear h h1
    go_wp2_with fail
    refine (awake24_c _).mono ?_
    rintro e w2 ⟨rfl, hB⟩
    have K2 := Lib.hid (K1.out.next hB)
    clear K1 hB
    go_wp2_with fail
    go_ret
    exact ⟨rfl, K2.out.below⟩
  · have h2 : ¬ (12 : Int) < (n : Int) := by omega
    by_cases h3 : m = 0
    · subst h3
      clear h h1
      go_wp2_with fail
      refine (awake24_c _).mono ?_
      rintro e w2 ⟨rfl, hB⟩
      have K2 := Lib.hid (K1.out.next hB)
      clear K1 hB
      go_wp2_with fail
      go_ret
      exact ⟨rfl, K2.out.below⟩
    · have h4 : ((m : Int) == 0) = false := by rw [beq_eq_false_iff_ne]; omega
      have h5 : (12 : Int) < (m : Int) := by omega
      clear h h1 h3
      go_wp2_with fail
      refine (awake24_c _).mono ?_
      rintro e w2 ⟨rfl, hB⟩
      have K2 := Lib.hid (K1.out.next hB)
      clear K1 hB
      go_wp2_with fail
      go_ret
      exact ⟨rfl, K2.out.below⟩
theorem gone_any (A D : Option Addr) (n c m d : Nat) (ids0 : List Id) (ps : List ActD) (u : Nat) (w : World) (hR : IdsR w (fun _ => 0) 0 A ids0) (hn : ids0.length = n) (hD : ManyR actCells 5 w (fun _ => 0) 0 D ps) (hm : ps.length = m) (hu : u < 256) :
    Calls Try.prog 14 #[.slice A n c, .slice D m d, .int .u8 u] w fun e w' => e = .returned (.bool true) ∧ Below w.heap.size w w' := by
  by_cases h1 : n ≤ 12
  · by_cases h2 : m ≤ 12
    · by_cases h3 : m = 0
      · exact gone_many A D n c m d u w (.inr (.inl h3))
      · exact gone_few A D n c m d ids0 ps u w hR hn hD hm h1 h2 (by omega) hu
    · exact gone_many A D n c m d u w (.inr (.inr (by omega)))
  · exact gone_many A D n c m d u w (.inl (by omega))
end Go.Proofs.Ytgmlhpkhecbkoaa
namespace Go.Proofs.Ytgmlhpkhecbkoaa
open Go.RowKit Go.ChangeShapes Go.WideShapes Go.ChangeAt Go.Joins Go.Deep

theorem Try.cells83 : Try.prog.cellsOf 83 = 5 := by kernel_rfl
theorem Try.cells4 : Try.prog.cellsOf 4 = 1 := by kernel_rfl
section
variable {H : Type} {enc : TypeId × Value → H} {w : World} {base : Nat} {spare : Nat → Bool} {held : Bool}
set_option maxRecDepth 100000 in
theorem trod_act {fuel : Nat} {cs : List Value} {x : DataW H × List MemPlace} (h : DataW.trod enc Try.prog w base spare held fuel 83 cs = some x) : ∃ z : ActD, cs = actCells z ∧ True := by
  obtain ⟨y0, y1, y2, n, _, hl, h0, h1, h2⟩ := trod_struct3 Try.underlying83 h
  rw [Try.cells83] at hl
  obtain ⟨c0, c1, c2, c3, c4, rfl⟩ := five_of hl
  simp only [Try.cells4, Try.cells24, List.drop_zero, List.take_succ_cons, List.take_zero, List.drop_succ_cons] at h0 h1 h2
  obtain ⟨a, e0, _⟩ := DataW.trod_bool Try.underlying4 h0
  obtain ⟨b, c, e1, _⟩ := trod_id h1
  obtain ⟨d, e, e2, _⟩ := trod_id h2
  cases e0
  cases e1
  cases e2
  exact ⟨⟨a, (b, c), (d, e)⟩, rfl, trivial⟩
set_option maxRecDepth 100000 in
theorem open_acts {r : Go.Reach} {b0 : Nat} {v : Value} {d : DataW H} {p : List MemPlace} (hv : Value.okWide Try.prog w r b0 77 v) (h : DataW.Trod enc Try.prog w 0 (fun _ => true) held 77 v d p) :
    ∃ A n c l, v = .slice A n c ∧ l.length = n ∧ n ≤ maxLen ∧ ManyR actCells 5 w (fun _ => 0) 0 A l ∧ ∀ z ∈ l, True :=
  open_many Try.underlying77 Try.cells83 (by omega) (fun _ => rfl) (fun _ _ _ h => trod_act h) hv h
end
end Go.Proofs.Ytgmlhpkhecbkoaa
namespace Go.Proofs.Ytgmlhpkhecbkoaa
open Go.RowKit Go.Shelf

set_option maxRecDepth 100000 in
set_option maxHeartbeats 1000000 in
theorem zero72_c (x1 x2 : Int) (w : World) :
    Calls Try.prog 72 #[.agg #[.int .i64 x1, .int .i64 x2]] w fun e w' => e = .returned (.bool (decide ((x1, x2) = (0, 0)))) ∧ Below w.heap.size w w' := by
  have hb : Below w.heap.size w (w.alloc (.cells #[.int .i64 x1, .int .i64 x2] 24)) := (Below.refl _ w).alloc (Nat.le_refl _) _
  have HB := Lib.hid hb
  clear hb
  by_cases h1 : x1 = 0
  · subst h1
    have E := Lib.hid (show (x2 == 0) = decide (((0 : Int), x2) = (0, 0)) by
      rw [Bool.eq_iff_iff]; simp)
    go_enter Try.func72, Try.ntmps72
    go_wp2_with fail
    go_ret
    exact ⟨ret_bool E.out, HB.out⟩
  · have E := Lib.hid (show decide ((x1, x2) = (0, 0)) = false by
      rw [decide_eq_false_iff_not]; intro h; simp only [Prod.mk.injEq] at h; exact h1 h.1)
    go_enter Try.func72, Try.ntmps72
    go_wp2_with fail
    go_ret
    exact ⟨ret_bool E.out.symm, HB.out⟩

set_option maxRecDepth 100000 in
set_option maxHeartbeats 1000000 in
theorem before85_c (x1 x2 y1 y2 : Int) (w : World) :
    Calls Try.prog 85 #[.agg #[.int .i64 x1, .int .i64 x2], .agg #[.int .i64 y1, .int .i64 y2]] w fun e w' => e = .returned (.bool (bef (x1, x2) (y1, y2))) ∧ Below w.heap.size w w' := by
  have hb : Below w.heap.size w ((w.alloc (.cells #[.int .i64 x1, .int .i64 x2] 24)).alloc (.cells #[.int .i64 y1, .int .i64 y2] 24)) := ((Below.refl _ w).alloc (Nat.le_refl _) _).alloc (by simp) _
  have HB := Lib.hid hb
  clear hb
  by_cases h1 : x2 < y2
  · have E := Lib.hid (show bef (x1, x2) (y1, y2) = true from bef_iff.2 (.inl h1))
    go_enter Try.func85, Try.ntmps85
    go_wp2_with fail
    go_ret
    exact ⟨ret_bool E.out.symm, HB.out⟩
  · by_cases h2 : x2 = y2
    · subst h2
      by_cases h3 : x1 < y1
      · have E := Lib.hid (show bef (x1, x2) (y1, x2) = true from bef_iff.2 (.inr ⟨rfl, h3⟩))
        go_enter Try.func85, Try.ntmps85
        go_wp2_with fail
        go_ret
        exact ⟨ret_bool E.out.symm, HB.out⟩
      · have E := Lib.hid (show bef (x1, x2) (y1, x2) = false by
          cases h : bef (x1, x2) (y1, x2) with
          | false => rfl
          | true => rw [bef_iff] at h; dsimp only at h; omega)
        go_enter Try.func85, Try.ntmps85
        go_wp2_with fail
        go_ret
        exact ⟨ret_bool E.out.symm, HB.out⟩
    · have E := Lib.hid (show bef (x1, x2) (y1, y2) = false by
        cases h : bef (x1, x2) (y1, y2) with
        | false => rfl
        | true => rw [bef_iff] at h; dsimp only at h; omega)
      go_enter Try.func85, Try.ntmps85
      go_wp2_with fail
      go_ret
      exact ⟨ret_bool E.out.symm, HB.out⟩

/-- The document's shared axis: three slices that can be read; their blocks have no tag. -/
structure RefS (w : World) (own : Tags) (A B C : Option Addr) (d f : Nat) (F : List Id) (P K : List (Id × Id)) : Prop where
  i : IdsR w own 0 A F
  p : ManyR putOf 4 w own 0 B P
  k : ManyR putOf 4 w own 0 C K
  zp : B = none → d = 0
  zk : C = none → f = 0
theorem ManyR.belowTo {α : Type} {f : α → List Value} {k : Nat} {w w' : World} {own : Tags} {t : Nat} {A : Option Addr} {l : List α} (h : ManyR f k w own t A l) (b : Below w.heap.size w w') : ManyR f k w' own t A l := h.keep b.size (Same.below b)
section
variable {w w' : World} {own own' : Tags} {t d f : Nat} {A B C : Option Addr} {F : List Id} {P K : List (Id × Id)}
theorem RefS.next (h : RefS w own A B C d f F P K) (b : Below w.heap.size w w') : RefS w' own A B C d f F P K := ⟨h.i.belowTo b, h.p.belowTo b, h.k.belowTo b, h.zp, h.zk⟩
theorem RefS.tr (h : RefS w own A B C d f F P K) (b : Tr own t w own' w') (ht : t ≠ 0) : RefS w' own' A B C d f F P K :=
  ⟨h.i.keep b.size (b.toSame ht.symm), h.p.keep b.size (b.toSame ht.symm), h.k.keep b.size (b.toSame ht.symm), h.zp, h.zk⟩
end
set_option maxRecDepth 100000 in
set_option maxHeartbeats 4000000 in
/-- Has: is the id there? -/
theorem has49_c (A B C : Option Addr) (n c m d k f : Nat) (F : List Id) (P K : List (Id × Id)) (y1 y2 : Int) (w : World) (own : Tags) (h : RefS w own A B C d f F P K) (hn : F.length = n) (hm : P.length = m) (hn1 : n ≤ 1000000) (hm1 : m ≤ 1000000) :
    Calls Try.prog 49 #[.agg #[.slice A n c, .slice B m d, .slice C k f], .agg #[.int .i64 y1, .int .i64 y2]] w fun e w' => e = .returned (.bool (has F P (y1, y2))) ∧ Below w.heap.size w w' := by
  have HF := Lib.hid hn
  have HP := Lib.hid hm
  have bv : Below w.heap.size w ((w.alloc (.cells #[.slice A n c, .slice B m d, .slice C k f] 80)).alloc (.cells #[.int .i64 y1, .int .i64 y2] 24)) := ((Below.refl _ w).alloc (Nat.le_refl _) _).alloc (by simp) _
  have HS := Lib.hid (h.next bv)
  have BV := Lib.hid bv
  have bX := Lib.hid ((Blk.new w 80 #[.slice A n c, .slice B m d, .slice C k f]).alloc (.cells #[.int .i64 y1, .int .i64 y2] 24))
  have bI := Lib.hid (Blk.new (w.alloc (.cells #[.slice A n c, .slice B m d, .slice C k f] 80)) 24 #[.int .i64 y1, .int .i64 y2])
  have hsz : (w.alloc (.cells #[.slice A n c, .slice B m d, .slice C k f] 80)).heap.size = w.heap.size + 1 := by simp
  rw [hsz] at bI
  clear hn hm h bv hsz
  go_enter Try.func49, Try.ntmps49
  go_wp2_with fail
  generalize (w.alloc (.cells #[.slice A n c, .slice B m d, .slice C k f] 80)).alloc (.cells #[.int .i64 y1, .int .i64 y2] 24) = V at *
  go_loopw [5] (fun i wr => ∃ k : Nat, k ≤ n ∧ i = .int .i64 k ∧ Hid (∀ j z, j < k → F[j]? = some z → z ≠ (y1, y2)) ∧ Hid (Below V.heap.size V wr)) (fun i _ => n - (intOf i).toNat)
  case atStart => exact ⟨0, Nat.zero_le _, rfl, (fun j _ hj => absurd hj (by omega)), Below.refl _ _⟩
  case round =>
    obtain ⟨k, hk, rfl, hno, hbel⟩ := hrel
    have bx := bX.out.kept (hbel.out.block _ bX.out.lt)
    have x0 := bx.cell 0
    have x1 := bx.cell 1
    have bi := bI.out.kept (hbel.out.block _ bI.out.lt)
    have i0 := bi.cell 0
    have i1 := bi.cell 1
    simp only [List.getElem?_toArray, List.getElem?_cons_zero, List.getElem?_cons_succ] at x0 x1 i0 i1
    clear bx bi
    by_cases hlt : k < n
    · have hkl : k < F.length := by rw [HF.out]; exact hlt
      obtain ⟨b1, o1, rfl, _, _, hc1⟩ := (HS.out.i.belowTo hbel.out) (fun e => by rw [e] at hkl; simp at hkl)
      obtain ⟨g1, g2⟩ := hc1 k hkl
      have e1 := Lib.hid (List.getElem?_eq_getElem hkl)
      clear hc1
      generalize F[k] = z at *
      obtain ⟨z1, z2⟩ := z
      dsimp only at g1 g2
      have hk0 : (0 : Int) ≤ (k : Int) := by omega
      have hkn : (k : Int) < (n : Int) := by omega
      have HC : AllCells wr.drew [(⟨b1, o1 + k * 2, none⟩, .int .i64 z1), (⟨b1, o1 + k * 2 + 1, none⟩, .int .i64 z2), (⟨w.heap.size, 0, none⟩, .slice (some ⟨b1, o1, none⟩) n c), (⟨w.heap.size + 1, 0, none⟩, .int .i64 y1), (⟨w.heap.size + 1, 1, none⟩, .int .i64 y2)] := ⟨g1, g2, x0, i0, i1, trivial⟩
      go_wp2_with fail
      refine region_free _ [0, 1, 2, 3, 4, 5] 1 (by kernel_rfl) (by kernel_rfl) (by kernel_rfl) (by kernel_rfl) (by kernel_rfl) (fun _ _ _ _ _ h => h) HC ?_
      intro hne hu
      simp only [AllCells] at hu
      simp only [pick, List.take_succ_cons, List.take_zero, List.drop_succ_cons, List.drop_zero, List.cons_append, List.nil_append]
      repeat (go_big_quiet_step (fail))
      refine wpQuiet_nil ?_
      clear hne hu
      refine anyN_oneL 6 (by kernel_rfl) ?_
      simp only [List.take_succ_cons, List.take_zero, List.drop_succ_cons, List.drop_zero]
      go_wp2_with fail
      refine (same62_c z1 z2 y1 y2 wr.drew).mono ?_
      rintro e w1 ⟨rfl, hb1⟩
      obtain ⟨q, hq⟩ : ∃ q, decide ((z1, z2) = (y1, y2)) = q := ⟨_, rfl⟩
      rw [hq]
      have HQ := Lib.hid hq
      clear hq
      have HC1 := AllCells.below (show AllCells wr.drew _ from HC) hb1
      have B1 := Lib.hid (hbel.out.trans (((Below.refl _ wr).drew.trans (hb1.mono (Nat.le_refl _))).mono hbel.out.size))
      clear hb1 hbel
      go_wp2_with fail
      refine And.intro (fun _ => HC1) ?_
      refine ⟨by kernel_rfl, ?_⟩
      clear HC HC1 g1 g2 x0 x1 i0 i1
      cases q
      · have Hq := Lib.hid (of_decide_eq_false HQ.out)
        go_wp2_with fail
        go_roundw
        case rel =>
          refine ⟨k + 1, by omega, by go_num, ?_, B1.out⟩
          intro j z hj hz
          by_cases hjk : j < k
          · exact hno.out j z hjk hz
          · have : j = k := by omega
            subst this
            have := Option.some.inj (hz.symm.trans e1.out)
            subst this
            exact Hq.out
        case measure => simp [intOf]; omega
      · have Hq := Lib.hid (of_decide_eq_true HQ.out)
        go_wp2_with fail
        go_ret
        refine ⟨ret_bool ?_, BV.out.trans (B1.out.mono BV.out.size)⟩
        symm
        exact has_iff.2 (.inl (by rw [← Hq.out]; exact List.mem_of_getElem? e1.out))
    · have hkn : ¬ ((k : Int) < (n : Int)) := by omega
      have hkk : k = n := by omega
      subst hkk
      have hnoF := Lib.hid hno.out
      have hbelF := Lib.hid hbel.out
      clear hno hbel
      go_wp2_with fail
      go_loopw [6] (fun i wr => ∃ k : Nat, k ≤ m ∧ i = .int .i64 k ∧ Hid (∀ j z, j < k → P[j]? = some z → z.2 ≠ (y1, y2)) ∧ Hid (Below V.heap.size V wr)) (fun i _ => m - (intOf i).toNat)
      case atStart => exact ⟨0, Nat.zero_le _, rfl, (fun j _ hj => absurd hj (by omega)), hbelF.out⟩
      case round =>
        obtain ⟨k, hk, rfl, hno, hbel⟩ := hrel
        have bx := bX.out.kept (hbel.out.block _ bX.out.lt)
        have x0 := bx.cell 0
        have x1 := bx.cell 1
        have bi := bI.out.kept (hbel.out.block _ bI.out.lt)
        have i0 := bi.cell 0
        have i1 := bi.cell 1
        simp only [List.getElem?_toArray, List.getElem?_cons_zero, List.getElem?_cons_succ] at x0 x1 i0 i1
        clear bx bi
        by_cases hlt : k < m
        · have hkl : k < P.length := by rw [HP.out]; exact hlt
          obtain ⟨b1, o1, rfl, _, _, hc1⟩ := (HS.out.p.belowTo hbel.out).puts (fun e => by rw [e] at hkl; simp at hkl)
          obtain ⟨_, _, g1, g2⟩ := hc1 k hkl
          have e1 := Lib.hid (List.getElem?_eq_getElem hkl)
          clear hc1
          generalize P[k] = z at *
          obtain ⟨z0, ⟨z1, z2⟩⟩ := z
          dsimp only at g1 g2
          have hk0 : (0 : Int) ≤ (k : Int) := by omega
          have hkn : (k : Int) < (m : Int) := by omega
          have HC : AllCells wr.drew [(⟨b1, o1 + k * 4 + 2, none⟩, .int .i64 z1), (⟨b1, o1 + k * 4 + 3, none⟩, .int .i64 z2), (⟨w.heap.size, 1, none⟩, .slice (some ⟨b1, o1, none⟩) m d), (⟨w.heap.size + 1, 0, none⟩, .int .i64 y1), (⟨w.heap.size + 1, 1, none⟩, .int .i64 y2)] := ⟨g1, g2, x1, i0, i1, trivial⟩
          go_wp2_with fail
          refine region_free _ [0, 1, 2, 3, 4, 5, 6] 1 (by kernel_rfl) (by kernel_rfl) (by kernel_rfl) (by kernel_rfl) (by kernel_rfl) (fun _ _ _ _ _ h => h) HC ?_
          intro hne hu
          simp only [AllCells] at hu
          simp only [pick, List.take_succ_cons, List.take_zero, List.drop_succ_cons, List.drop_zero, List.cons_append, List.nil_append]
          repeat (go_big_quiet_step (fail))
          refine wpQuiet_nil ?_
          clear hne hu
          refine anyN_oneL 7 (by kernel_rfl) ?_
          simp only [List.take_succ_cons, List.take_zero, List.drop_succ_cons, List.drop_zero]
          go_wp2_with fail
          refine (same62_c z1 z2 y1 y2 wr.drew).mono ?_
          rintro e w1 ⟨rfl, hb1⟩
          obtain ⟨q, hq⟩ : ∃ q, decide ((z1, z2) = (y1, y2)) = q := ⟨_, rfl⟩
          rw [hq]
          have HQ := Lib.hid hq
          clear hq
          have HC1 := AllCells.below (show AllCells wr.drew _ from HC) hb1
          have B1 := Lib.hid (hbel.out.trans (((Below.refl _ wr).drew.trans (hb1.mono (Nat.le_refl _))).mono hbel.out.size))
          clear hb1 hbel
          go_wp2_with fail
          refine And.intro (fun _ => HC1) ?_
          refine ⟨by kernel_rfl, ?_⟩
          clear HC HC1 g1 g2 x0 x1 i0 i1
          cases q
          · have Hq := Lib.hid (of_decide_eq_false HQ.out)
            go_wp2_with fail
            go_roundw
            case rel =>
              refine ⟨k + 1, by omega, by go_num, ?_, B1.out⟩
              intro j z hj hz
              by_cases hjk : j < k
              · exact hno.out j z hjk hz
              · have : j = k := by omega
                subst this
                have := Option.some.inj (hz.symm.trans e1.out)
                subst this
                exact Hq.out
            case measure => simp [intOf]; omega
          · have Hq := Lib.hid (of_decide_eq_true HQ.out)
            go_wp2_with fail
            go_ret
            refine ⟨ret_bool ?_, BV.out.trans (B1.out.mono BV.out.size)⟩
            symm
            exact has_iff.2 (.inr (by rw [← Hq.out]; exact List.mem_map.2 ⟨_, List.mem_of_getElem? e1.out, rfl⟩))
        · have hkn : ¬ ((k : Int) < (m : Int)) := by omega
          have hkk : k = m := by omega
          subst hkk
          go_wp2_with fail
          go_ret
          refine ⟨ret_bool ?_, BV.out.trans (hbel.out.mono BV.out.size)⟩
          symm
          cases hh : has F P (y1, y2) with
          | false => rfl
          | true =>
            rcases has_iff.1 hh with hm | hm
            · obtain ⟨j, hj⟩ := List.mem_iff_getElem?.1 hm
              have := (List.getElem?_eq_some_iff.1 hj).1
              rw [HF.out] at this
              exact absurd rfl (hnoF.out j _ (by omega) hj)
            · obtain ⟨p, hp, hpe⟩ := List.mem_map.1 hm
              obtain ⟨j, hj⟩ := List.mem_iff_getElem?.1 hp
              have := (List.getElem?_eq_some_iff.1 hj).1
              rw [HP.out] at this
              exact absurd hpe (hno.out j _ (by omega) hj)
end Go.Proofs.Ytgmlhpkhecbkoaa
namespace Go.Proofs.Ytgmlhpkhecbkoaa
open Go.RowKit Go.Shelf

theorem ownsRow_weak {w : World} {base b' : Nat} {e : TypeId} {size : Nat} {v : Value} {n : Nat} {xs : List Value} (h : w.ownsRow base e size v n xs) (hb : b' ≤ base) : w.ownsRow b' e size v n xs := by
  refine ⟨h.1, ?_⟩
  rcases h.2 with h0 | ⟨g, cap, cur, hv, hg, hr⟩
  · exact .inl h0
  · exact .inr ⟨g, cap, cur, hv, Nat.le_trans hb hg, hr⟩
theorem Blk.set3 {w : World} {g : Nat} {e : TypeId} {u v x : Value} (h : Blk w g e #[u, v, x]) (a b c : Value) : Blk (((w.setCell ⟨g, 0, none⟩ a).setCell ⟨g, 1, none⟩ b).setCell ⟨g, 2, none⟩ c) g e #[a, b, c] := by
  simpa using ((h.store 0 a).store 1 b).store 2 c
theorem below_set3 {n : Nat} {w W : World} {g : Nat} (h : Below n w W) (hg : n ≤ g) (a b c : Value) : Below n w (((W.setCell ⟨g, 0, none⟩ a).setCell ⟨g, 1, none⟩ b).setCell ⟨g, 2, none⟩ c) := ((h.setCell hg a).setCell hg b).setCell hg c
theorem cutCells_at (l : List (Id × Id)) : ∀ (j : Nat) (u : Value), (cutCells l)[j]? = some u → ∃ (i r : Nat) (h : i < l.length), j = i * 4 + r ∧ r < 4 ∧ (putOf l[i])[r]? = some u := by
  induction l with
  | nil => intro j u h; simp [cutCells] at h
  | cons x l ih =>
    intro j u h
    match j, h with
    | 0, h => exact ⟨0, 0, by simp, by simp, by omega, by simpa [cutCells, putOf] using h⟩
    | 1, h => exact ⟨0, 1, by simp, by simp, by omega, by simpa [cutCells, putOf] using h⟩
    | 2, h => exact ⟨0, 2, by simp, by simp, by omega, by simpa [cutCells, putOf] using h⟩
    | 3, h => exact ⟨0, 3, by simp, by simp, by omega, by simpa [cutCells, putOf] using h⟩
    | j + 4, h =>
      obtain ⟨i, r, hi, hj, hr, hu⟩ := ih j u (by simpa [cutCells] using h)
      exact ⟨i + 1, r, by simp; omega, by omega, hr, by simpa using hu⟩
theorem ManyR.cells {w : World} {own : Tags} {t : Nat} {a : Addr} {l : List (Id × Id)} (h : ManyR putOf 4 w own t (some a) l) : ∀ j u, (cutCells l)[j]? = some u → w.cell? (a.add j) = some u := by
  intro j u hu
  obtain ⟨i, r, hi, rfl, hr, hv⟩ := cutCells_at l j u hu
  obtain ⟨b, off, e, _, _, hc⟩ := h (fun e => by rw [e] at hi; simp at hi)
  cases e
  have := hc i hi r u hv
  rw [add_off rfl]
  show w.cell? ⟨b, off + (i * 4 + r), none⟩ = _
  rw [← Nat.add_assoc]
  exact this
theorem Try.info42z : (Try.prog.info? 42).map (fun i => (i.zero, i.size, i.bytes)) = some (some (.agg #[.int .i64 0, .int .i64 0, .int .i64 0, .int .i64 0]), 4, 32) := by kernel_rfl
theorem Try.info115z : (Try.prog.info? 115).map (fun i => (i.zero, i.size, i.bytes)) = some (some (.agg #[.int .i64 0, .int .i64 0, .int .i64 0, .int .i64 0]), 4, 32) := by kernel_rfl
theorem ManyR.nils {w : World} {own : Tags} {t : Nat} {A : Option Addr} {l : List (Id × Id)} {n c : Nat} (h : ManyR putOf 4 w own t A l) (hl : l.length = n) (hc : A = none → c = 0) : A = none → n = 0 ∧ c = 0 := fun e => by
  refine ⟨?_, hc e⟩
  by_cases hz : l = []
  · rw [← hl, hz]; rfl
  · obtain ⟨_, _, e2, _⟩ := h hz
    rw [e] at e2
    cases e2
/-- What Insert and Delete hold of their arguments. -/
structure RI (w : World) (own : Tags) (A B C : Option Addr) (n c m d k e : Nat) (F : List Id) (P K : List (Id × Id)) (b1 b2 x1 x2 : Int) (X Y Z R : Nat) (W : World) : Prop where
  bel : Below w.heap.size w W
  bX : Blk W X 80 #[.slice A n c, .slice B m d, .slice C k e]
  bY : Blk W Y 24 #[.int .i64 b1, .int .i64 b2]
  bZ : Blk W Z 24 #[.int .i64 x1, .int .i64 x2]
  bR : Blk W R 80 #[.slice none 0 0, .slice none 0 0, .slice none 0 0]
  s : RefS W own A B C d e F P K
section
variable {w W W' : World} {own : Tags} {A B C : Option Addr} {n c m d k e : Nat} {F : List Id} {P K : List (Id × Id)} {b1 b2 x1 x2 : Int} {X Y Z R : Nat}
theorem RI.next (h : RI w own A B C n c m d k e F P K b1 b2 x1 x2 X Y Z R W) (b : Below W.heap.size W W') : RI w own A B C n c m d k e F P K b1 b2 x1 x2 X Y Z R W' :=
  ⟨h.bel.trans (b.mono h.bel.size), h.bX.kept (b.block _ h.bX.lt), h.bY.kept (b.block _ h.bY.lt), h.bZ.kept (b.block _ h.bZ.lt), h.bR.kept (b.block _ h.bR.lt), h.s.next b⟩
theorem RI.start (h : RefS w own A B C d e F P K) : RI w own A B C n c m d k e F P K b1 b2 x1 x2 w.heap.size (w.heap.size + 1) (w.heap.size + 1 + 1) (w.heap.size + 1 + 1 + 1) ((((w.alloc (.cells #[.slice A n c, .slice B m d, .slice C k e] 80)).alloc (.cells #[.int .i64 b1, .int .i64 b2] 24)).alloc (.cells #[.int .i64 x1, .int .i64 x2] 24)).alloc (.cells #[.slice none 0 0, .slice none 0 0, .slice none 0 0] 80)) := by
  have h1 := (Below.refl _ w).alloc (Nat.le_refl _) (.cells #[.slice A n c, .slice B m d, .slice C k e] 80)
  have h2 := h1.alloc (by simp) (.cells #[.int .i64 b1, .int .i64 b2] 24)
  have h3 := h2.alloc (by simp; omega) (.cells #[.int .i64 x1, .int .i64 x2] 24)
  have h4 := h3.alloc (by simp; omega) (.cells #[.slice none 0 0, .slice none 0 0, .slice none 0 0] 80)
  refine ⟨h4, (((Blk.new w 80 #[.slice A n c, .slice B m d, .slice C k e]).alloc _).alloc _).alloc _, ?_, ?_, ?_, h.next h4⟩
  · have := ((Blk.new (w.alloc (.cells #[.slice A n c, .slice B m d, .slice C k e] 80)) 24 #[.int .i64 b1, .int .i64 b2]).alloc (.cells #[.int .i64 x1, .int .i64 x2] 24)).alloc (.cells #[.slice none 0 0, .slice none 0 0, .slice none 0 0] 80)
    simpa using this
  · have := (Blk.new ((w.alloc (.cells #[.slice A n c, .slice B m d, .slice C k e] 80)).alloc (.cells #[.int .i64 b1, .int .i64 b2] 24)) 24 #[.int .i64 x1, .int .i64 x2]).alloc (.cells #[.slice none 0 0, .slice none 0 0, .slice none 0 0] 80)
    simpa using this
  · have := Blk.new (((w.alloc (.cells #[.slice A n c, .slice B m d, .slice C k e] 80)).alloc (.cells #[.int .i64 b1, .int .i64 b2] 24)).alloc (.cells #[.int .i64 x1, .int .i64 x2] 24)) 80 #[.slice none 0 0, .slice none 0 0, .slice none 0 0]
    simpa using this
end
/-- A shared axis and a number are handed back. -/
def RInsP (w : World) (own : Tags) (F : List Id) (P K : List (Id × Id)) (x : Int) (e : Ending) (w' : World) : Prop :=
  ∃ A B C c d f, e = .returned (.tuple #[.agg #[.slice A F.length c, .slice B P.length d, .slice C K.length f], .int .i64 x]) ∧ Below w.heap.size w w' ∧ RefS w' own A B C d f F P K

set_option maxRecDepth 100000 in
set_option maxHeartbeats 4000000 in
theorem rins48_c (A B C : Option Addr) (n c m d k f : Nat) (F : List Id) (P K : List (Id × Id)) (b1 b2 x1 x2 : Int) (w : World) (own : Tags) (h : RefS w own A B C d f F P K) (hf : Fresh own w) (hn : F.length = n) (hm : P.length = m) (hk : K.length = k) (hl : n + m < 1000) :
    Calls Try.prog 48 #[.agg #[.slice A n c, .slice B m d, .slice C k f], .agg #[.int .i64 b1, .int .i64 b2], .agg #[.int .i64 x1, .int .i64 x2]] w (RInsP w own F (insPuts F P (b1, b2) (x1, x2)) K (insS F P (b1, b2) (x1, x2))) := by
  have S0 := Lib.hid (RI.start (n := n) (c := c) (m := m) (d := d) (k := k) (e := f) (b1 := b1) (b2 := b2) (x1 := x1) (x2 := x2) h)
  have H0 := Lib.hid h
  have Hn := Lib.hid hn
  have Hm := Lib.hid hm
  have Hk := Lib.hid hk
  have HF := Lib.hid hf
  have HRw : Hid (w.heap.size ≤ w.heap.size + 1 + 1 + 1) := by show _ ≤ _; omega
  have HXw : Hid (w.heap.size ≤ w.heap.size) := Nat.le_refl _
  have HXR : Hid (w.heap.size ≠ w.heap.size + 1 + 1 + 1) := by show _ ≠ _; omega
  have HYX : Hid (w.heap.size + 1 ≠ w.heap.size) := by show _ ≠ _; omega
  have HZX : Hid (w.heap.size + 1 + 1 ≠ w.heap.size) := by show _ ≠ _; omega
  clear h hn hm hf hk
  go_enter Try.func48, Try.ntmps48
  go_wp2_with fail
  generalize (((w.alloc (.cells #[.slice A n c, .slice B m d, .slice C k f] 80)).alloc (.cells #[.int .i64 b1, .int .i64 b2] 24)).alloc (.cells #[.int .i64 x1, .int .i64 x2] 24)).alloc (.cells #[.slice none 0 0, .slice none 0 0, .slice none 0 0] 80) = V at *
  generalize w.heap.size + 1 + 1 + 1 = R at *
  generalize w.heap.size + 1 + 1 = Z at *
  generalize w.heap.size + 1 = Y at *
  refine (zero72_c x1 x2 V).mono ?_
  rintro e w1 ⟨rfl, hb1⟩
  have S1 := Lib.hid (S0.out.next hb1)
  obtain ⟨q, hq⟩ : ∃ q, decide ((x1, x2) = (0, 0)) = q := ⟨_, rfl⟩
  rw [hq]
  have HQ := Lib.hid hq
  clear hq hb1 S0
  have cX0 := S1.out.bX.cell 0
  have cX1 := S1.out.bX.cell 1
  have cX2 := S1.out.bX.cell 2
  have lX := S1.out.bX.lt
  have lR := S1.out.bR.lt
  have cR0 := S1.out.bR.cell 0
  have cR1 := S1.out.bR.cell 1
  have cR2 := S1.out.bR.cell 2
  have fR0 := S1.out.bR.frozen 0
  have fR1 := S1.out.bR.frozen 1
  have fR2 := S1.out.bR.frozen 2
  have cY0 := S1.out.bY.cell 0
  have cY1 := S1.out.bY.cell 1
  have lY := S1.out.bY.lt
  have cZ0 := S1.out.bZ.cell 0
  have cZ1 := S1.out.bZ.cell 1
  have lZ := S1.out.bZ.lt
  simp only [List.getElem?_toArray, List.getElem?_cons_zero, List.getElem?_cons_succ] at cX0 cX1 cX2 cR0 cR1 cR2 cY0 cY1 cZ0 cZ1
  cases q
  · have hz := Lib.hid (of_decide_eq_false HQ.out)
    go_wp2_with fail
    clear cX0 cX1 cX2 cR0 cR1 cR2 cY0 cY1 cZ0 cZ1 lX lY lZ lR fR0 fR1 fR2
    refine (has49_c A B C n c m d k f F P K x1 x2 w1 own S1.out.s Hn.out Hm.out (by omega) (by omega)).mono ?_
    rintro e w2 ⟨rfl, hb2⟩
    have S2 := Lib.hid (S1.out.next hb2)
    obtain ⟨q, hq⟩ : ∃ q, has F P (x1, x2) = q := ⟨_, rfl⟩
    rw [hq]
    have HQ2 := Lib.hid hq
    clear hq hb2 S1
    have cX0 := S2.out.bX.cell 0
    have cX1 := S2.out.bX.cell 1
    have cX2 := S2.out.bX.cell 2
    have lX := S2.out.bX.lt
    have lR := S2.out.bR.lt
    have cR0 := S2.out.bR.cell 0
    have cR1 := S2.out.bR.cell 1
    have cR2 := S2.out.bR.cell 2
    have fR0 := S2.out.bR.frozen 0
    have fR1 := S2.out.bR.frozen 1
    have fR2 := S2.out.bR.frozen 2
    have cY0 := S2.out.bY.cell 0
    have cY1 := S2.out.bY.cell 1
    have lY := S2.out.bY.lt
    have cZ0 := S2.out.bZ.cell 0
    have cZ1 := S2.out.bZ.cell 1
    have lZ := S2.out.bZ.lt
    simp only [List.getElem?_toArray, List.getElem?_cons_zero, List.getElem?_cons_succ] at cX0 cX1 cX2 cR0 cR1 cR2 cY0 cY1 cZ0 cZ1
    cases q
    · go_wp2_with fail
      clear cX0 cX1 cX2 cR0 cR1 cR2 cY0 cY1 cZ0 cZ1 lX lY lZ lR fR0 fR1 fR2
      refine (zero72_c b1 b2 w2).mono ?_
      rintro e w3 ⟨rfl, hb3⟩
      have S3 := Lib.hid (S2.out.next hb3)
      obtain ⟨q, hq⟩ : ∃ q, decide ((b1, b2) = (0, 0)) = q := ⟨_, rfl⟩
      rw [hq]
      have HQ3 := Lib.hid hq
      clear hq hb3 S2
      have cX0 := S3.out.bX.cell 0
      have cX1 := S3.out.bX.cell 1
      have cX2 := S3.out.bX.cell 2
      have lX := S3.out.bX.lt
      have lR := S3.out.bR.lt
      have cR0 := S3.out.bR.cell 0
      have cR1 := S3.out.bR.cell 1
      have cR2 := S3.out.bR.cell 2
      have fR0 := S3.out.bR.frozen 0
      have fR1 := S3.out.bR.frozen 1
      have fR2 := S3.out.bR.frozen 2
      have cY0 := S3.out.bY.cell 0
      have cY1 := S3.out.bY.cell 1
      have lY := S3.out.bY.lt
      have cZ0 := S3.out.bZ.cell 0
      have cZ1 := S3.out.bZ.cell 1
      have lZ := S3.out.bZ.lt
      simp only [List.getElem?_toArray, List.getElem?_cons_zero, List.getElem?_cons_succ] at cX0 cX1 cX2 cR0 cR1 cR2 cY0 cY1 cZ0 cZ1
      have hful : ¬ ((1000 : Int) ≤ (n : Int) + (m : Int)) := by omega
      cases q
      · go_wp2_with fail
        clear cX0 cX1 cX2 cR0 cR1 cR2 cY0 cY1 cZ0 cZ1 lX lY lZ lR fR0 fR1 fR2
        refine (has49_c A B C n c m d k f F P K b1 b2 w3 own S3.out.s Hn.out Hm.out (by omega) (by omega)).mono ?_
        rintro e w4 ⟨rfl, hb4⟩
        have SW := Lib.hid (S3.out.next hb4)
        obtain ⟨q, hq⟩ : ∃ q, has F P (b1, b2) = q := ⟨_, rfl⟩
        rw [hq]
        have HQ4 := Lib.hid hq
        clear hq hb4 S3
        generalize w4 = W at *
        cases q
        · skip
          have cX0 := SW.out.bX.cell 0
          have cX1 := SW.out.bX.cell 1
          have cX2 := SW.out.bX.cell 2
          have lX := SW.out.bX.lt
          have lR := SW.out.bR.lt
          have cR0 := SW.out.bR.cell 0
          have cR1 := SW.out.bR.cell 1
          have cR2 := SW.out.bR.cell 2
          have fR0 := SW.out.bR.frozen 0
          have fR1 := SW.out.bR.frozen 1
          have fR2 := SW.out.bR.frozen 2
          have cY0 := SW.out.bY.cell 0
          have cY1 := SW.out.bY.cell 1
          have lY := SW.out.bY.lt
          have cZ0 := SW.out.bZ.cell 0
          have cZ1 := SW.out.bZ.cell 1
          have lZ := SW.out.bZ.lt
          simp only [List.getElem?_toArray, List.getElem?_cons_zero, List.getElem?_cons_succ] at cX0 cX1 cX2 cR0 cR1 cR2 cY0 cY1 cZ0 cZ1
          go_wp2_with fail
          clear cX0 cX1 cX2 cR0 cR1 cR2 cY0 cY1 cZ0 cZ1 lX lY lZ lR fR0 fR1 fR2
          have bR := SW.out.bR.set3 (.slice A n c) (.slice B m d) (.slice C k f)
          have r0 := bR.cell 0
          have r1 := bR.cell 1
          have r2 := bR.cell 2
          simp only [List.getElem?_toArray, List.getElem?_cons_zero, List.getElem?_cons_succ] at r0 r1 r2
          refine bodyPost_ret (v := .tuple #[.agg #[.slice A n c, .slice B m d, .slice C k f], .int .i64 3]) (by simp [results, Try.results48, go_sem, r0, r1, r2]) rfl ?_
          have bl := below_set3 SW.out.bel HRw.out (.slice A n c) (.slice B m d) (.slice C k f)
          have e3 : insS F P (b1, b2) (x1, x2) = 3 := by
            unfold insS
            rw [if_neg hz.out, if_neg (by rw [HQ2.out]; decide), if_pos ⟨of_decide_eq_false HQ3.out, HQ4.out⟩]
          have e4 : insPuts F P (b1, b2) (x1, x2) = P := by unfold insPuts; rw [e3]; rfl
          rw [e3, e4]
          exact ⟨A, B, C, c, d, f, by rw [Hn.out, Hm.out, Hk.out], bl, H0.out.next bl⟩
        · have hb : Hid (b1 = 0 ∧ b2 = 0 ∨ has F P (b1, b2) = true) := .inr HQ4.out
          have hnews : Hid (∀ ad, B = some ad → ∀ j u, (cutCells P)[j]? = some u → W.cell? (ad.add j) = some u) := fun ad had => by
            cases had
            exact SW.out.s.p.cells
          have hAz := Lib.hid (SW.out.s.p.nils Hm.out SW.out.s.zp)
          have hlen : Hid ((cutCells P).length = m * 4) := by show _ = _; rw [length_cutCells, Hm.out]
          obtain ⟨i0, hi, hz0, hz1, hz2⟩ := info_parts Try.info42z
          have cX0 := SW.out.bX.cell 0
          have cX1 := SW.out.bX.cell 1
          have cX2 := SW.out.bX.cell 2
          have lX := SW.out.bX.lt
          have lR := SW.out.bR.lt
          have cR0 := SW.out.bR.cell 0
          have cR1 := SW.out.bR.cell 1
          have cR2 := SW.out.bR.cell 2
          have fR0 := SW.out.bR.frozen 0
          have fR1 := SW.out.bR.frozen 1
          have fR2 := SW.out.bR.frozen 2
          have cY0 := SW.out.bY.cell 0
          have cY1 := SW.out.bY.cell 1
          have lY := SW.out.bY.lt
          have cZ0 := SW.out.bZ.cell 0
          have cZ1 := SW.out.bZ.cell 1
          have lZ := SW.out.bZ.lt
          simp only [List.getElem?_toArray, List.getElem?_cons_zero, List.getElem?_cons_succ] at cX0 cX1 cX2 cR0 cR1 cR2 cY0 cY1 cZ0 cZ1
          clear cR0 cR1 cR2 fR0 fR1 fR2
          go_wp2_with (at_builtin; refine wpList_append_src W rfl _ _ _ rfl W.heap.size 42 i0 _ 4 32 Try.underlying37 hi hz0 hz1 hz2 rfl (by omega) _ 0 [] rfl (World.ownsRow_nil W W.heap.size 42 4) B m d (cutCells P) rfl hAz.out hlen.out hnews.out (fun u hu => cutCells_one P u hu) (by simp only [maxLen]; omega) (by omega) (Nat.le_refl _) ?_)
          clear cX0 cX1 cX2 cY0 cY1 cZ0 cZ1 lX lY lZ lR hnews hAz hlen
          intro v8 w8 hr8 hg8 hat8
          have hb8 : Below W.heap.size W w8 := Below.grew hg8 (by intro k hk; cases hk) (Nat.le_refl _)
          have S8 := Lib.hid (SW.out.next hb8)
          have hr8' : w8.ownsRow W.heap.size 42 4 v8 m (cutCells P) := by simpa using hr8
          have R8 := Lib.hid hr8'
          have HS8 : Hid (W.heap.size ≤ w8.heap.size) := hb8.size
          have HXW : Hid (w.heap.size < W.heap.size) := SW.out.bX.lt
          have HRW : Hid (R < W.heap.size) := SW.out.bR.lt
          have HYW : Hid (Y < W.heap.size) := SW.out.bY.lt
          have HZW : Hid (Z < W.heap.size) := SW.out.bZ.lt
          clear hr8 hg8 hat8 hr8'
          have cX0 := S8.out.bX.cell 0
          have cX1 := S8.out.bX.cell 1
          have cX2 := S8.out.bX.cell 2
          have lX := S8.out.bX.lt
          have lR := S8.out.bR.lt
          have cR0 := S8.out.bR.cell 0
          have cR1 := S8.out.bR.cell 1
          have cR2 := S8.out.bR.cell 2
          have fR0 := S8.out.bR.frozen 0
          have fR1 := S8.out.bR.frozen 1
          have fR2 := S8.out.bR.frozen 2
          have cY0 := S8.out.bY.cell 0
          have cY1 := S8.out.bY.cell 1
          have lY := S8.out.bY.lt
          have cZ0 := S8.out.bZ.cell 0
          have cZ1 := S8.out.bZ.cell 1
          have lZ := S8.out.bZ.lt
          simp only [List.getElem?_toArray, List.getElem?_cons_zero, List.getElem?_cons_succ] at cX0 cX1 cX2 cR0 cR1 cR2 cY0 cY1 cZ0 cZ1
          have bl9 : Below w8.heap.size w8 (w8.alloc (.cells #[.int .i64 b1, .int .i64 b2, .int .i64 x1, .int .i64 x2] 42)) := (Below.refl _ _).alloc (Nat.le_refl _) _
          have S9 := Lib.hid (S8.out.next bl9)
          have R9 := Lib.hid (ownsRow_kept R8.out (w' := w8.alloc (.cells #[.int .i64 b1, .int .i64 b2, .int .i64 x1, .int .i64 x2] 42)) (fun g _ hg => bl9.block g hg))
          have HS9 : Hid (W.heap.size ≤ (w8.alloc (.cells #[.int .i64 b1, .int .i64 b2, .int .i64 x1, .int .i64 x2] 42)).heap.size) := Nat.le_trans HS8.out bl9.size
          have HB9 := Lib.hid (hb8.trans (bl9.mono hb8.size))
          clear bl9 hb8 S8 R8 cR0 cR1 cR2 fR0 fR1 fR2
          go_wp2_with (at_builtin; refine wpList_append_own_at _ rfl _ _ _ rfl W.heap.size 42 i0 _ 4 32 Try.underlying37 hi hz0 hz1 hz2 rfl (by omega) _ _ _ rfl R9.out ⟨w8.heap.size, 0, none⟩ 1 1 [.int .i64 b1, .int .i64 b2, .int .i64 x1, .int .i64 x2] rfl rfl (news_new w8 w8.heap.size rfl #[.int .i64 b1, .int .i64 b2, .int .i64 x1, .int .i64 x2] 42) (by simp [Value.oneCell']) (by simp only [maxLen]; omega) (by omega) HS9.out ?_; intro v' w10 hr10 hg10 _ hat10; obtain ⟨gN, cN, rfl⟩ := ownsRow_slice hr10 (by omega); have hb10 : Below W.heap.size (w8.alloc (.cells #[.int .i64 b1, .int .i64 b2, .int .i64 x1, .int .i64 x2] 42)) w10 := Below.grew hg10 (ownsRow_base R9.out) HS9.out; have hb8' : Below W.heap.size W w10 := (HB9.out).trans hb10; have S10 := Lib.hid (SW.out.next hb8'); have R10 := Lib.hid hr10; have hgN : Hid (W.heap.size ≤ gN) := ownsRow_base hr10 gN rfl; clear hr10 hg10 hat10 hb10 hb8' cX0 cX1 cX2 cY0 cY1 cZ0 cZ1 lX lY lZ lR S9 R9; have fX1 := S10.out.bX.frozen 1; have hxr1 := HXR.out; have hxr2 := HXR.out.symm; have cX0 := S10.out.bX.cell 0; have cX1 := S10.out.bX.cell 1; have cX2 := S10.out.bX.cell 2; have lX := S10.out.bX.lt; have lR := S10.out.bR.lt; have cR0 := S10.out.bR.cell 0; have cR1 := S10.out.bR.cell 1; have cR2 := S10.out.bR.cell 2; have fR0 := S10.out.bR.frozen 0; have fR1 := S10.out.bR.frozen 1; have fR2 := S10.out.bR.frozen 2; have cY0 := S10.out.bY.cell 0; have cY1 := S10.out.bY.cell 1; have lY := S10.out.bY.lt; have cZ0 := S10.out.bZ.cell 0; have cZ1 := S10.out.bZ.cell 1; have lZ := S10.out.bZ.lt; simp only [List.getElem?_toArray, List.getElem?_cons_zero, List.getElem?_cons_succ] at cX0 cX1 cX2 cR0 cR1 cR2 cY0 cY1 cZ0 cZ1)
          have e3 : insS F P (b1, b2) (x1, x2) = 0 := by
            unfold insS
            rw [if_neg hz.out, if_neg (by rw [HQ2.out]; decide), if_neg (by rintro ⟨h1, h2⟩; rcases hb.out with ⟨rfl, rfl⟩ | h3; exact h1 rfl; rw [h3] at h2; cases h2), if_neg (by rw [Hn.out, Hm.out]; omega)]
          have e4 : insPuts F P (b1, b2) (x1, x2) = P ++ [((b1, b2), (x1, x2))] := by unfold insPuts; rw [e3]; rfl
          have E3 := Lib.hid e3
          have E4 := Lib.hid e4
          clear e3 e4
          clear cX0 cX1 cX2 cR0 cR1 cR2 cY0 cY1 cZ0 cZ1 lX lY lZ lR fR0 fR1 fR2 fX1
          have bR := (S10.out.bR.far (p := ⟨w.heap.size, 1, none⟩) HXR.out.symm (.slice (some ⟨gN, 0, none⟩) (m + 1) cN)).set3 (.slice A n c) (.slice (some ⟨gN, 0, none⟩) (m + 1) cN) (.slice C k f)
          have r0 := bR.cell 0
          have r1 := bR.cell 1
          have r2 := bR.cell 2
          simp only [List.getElem?_toArray, List.getElem?_cons_zero, List.getElem?_cons_succ] at r0 r1 r2
          refine bodyPost_ret (v := .tuple #[.agg #[(.slice A n c), (.slice (some ⟨gN, 0, none⟩) (m + 1) cN), (.slice C k f)], .int .i64 0]) (by simp [results, Try.results48, go_sem, r0, r1, r2]) rfl ?_
          have bl := below_set3 (S10.out.bel.setCell (p := ⟨w.heap.size, 1, none⟩) (Nat.le_refl _) (.slice (some ⟨gN, 0, none⟩) (m + 1) cN)) HRw.out (.slice A n c) (.slice (some ⟨gN, 0, none⟩) (m + 1) cN) (.slice C k f)
          have row : Row (((((w10.setCell ⟨w.heap.size, 1, none⟩ (.slice (some ⟨gN, 0, none⟩) (m + 1) cN)).setCell ⟨R, 0, none⟩ (.slice A n c)).setCell ⟨R, 1, none⟩ (.slice (some ⟨gN, 0, none⟩) (m + 1) cN))).setCell ⟨R, 2, none⟩ (.slice C k f)) own 0 42 4 (.slice (some ⟨gN, 0, none⟩) (m + 1) cN) (P.length + 1) (cutCells (P ++ [((b1, b2), (x1, x2))])) := by
            refine ⟨ownsRow_kept (ownsRow_weak (b' := 0) (by rw [Hm.out, cutCells_app]; simpa [cutCells] using R10.out) (Nat.zero_le _)) (fun g hg _ => ?_), fun g hg => ?_⟩
            · have eg : g = gN := by simpa [Value.ownBlock] using hg.symm
              subst eg
              have h1 : g ≠ w.heap.size := by have := hgN.out; have := HXW.out; omega
              have h2 : g ≠ R := by have := hgN.out; have := HRW.out; omega
              rw [Below.heap_setCell _ _ _ _ h2, Below.heap_setCell _ _ _ _ h2, Below.heap_setCell _ _ _ _ h2, Below.heap_setCell _ _ _ _ h1]
            · have eg : g = gN := by simpa [Value.ownBlock] using hg.symm
              subst eg
              exact HF.out.new (by have := hgN.out; have := HXW.out; omega)
          rw [E3.out, E4.out]
          refine ⟨A, some ⟨gN, 0, none⟩, C, c, cN, f, by simp only [List.length_append, List.length_singleton, Hn.out, Hm.out, Hk.out], bl, ?_⟩
          have s0 := H0.out.next bl
          rw [Hm.out] at row
          exact ⟨s0.i, row.toPuts.2, s0.k, (fun e => by cases e), s0.zk⟩
      · have hb : Hid (b1 = 0 ∧ b2 = 0 ∨ has F P (b1, b2) = true) := .inl (by have := of_decide_eq_true HQ3.out; simpa using this)
        have SW := Lib.hid S3.out
        clear S3
        generalize w3 = W at *
        clear cX0 cX1 cX2 cR0 cR1 cR2 cY0 cY1 cZ0 cZ1 lX lY lZ lR fR0 fR1 fR2
        have hnews : Hid (∀ ad, B = some ad → ∀ j u, (cutCells P)[j]? = some u → W.cell? (ad.add j) = some u) := fun ad had => by
          cases had
          exact SW.out.s.p.cells
        have hAz := Lib.hid (SW.out.s.p.nils Hm.out SW.out.s.zp)
        have hlen : Hid ((cutCells P).length = m * 4) := by show _ = _; rw [length_cutCells, Hm.out]
        obtain ⟨i0, hi, hz0, hz1, hz2⟩ := info_parts Try.info42z
        have cX0 := SW.out.bX.cell 0
        have cX1 := SW.out.bX.cell 1
        have cX2 := SW.out.bX.cell 2
        have lX := SW.out.bX.lt
        have lR := SW.out.bR.lt
        have cR0 := SW.out.bR.cell 0
        have cR1 := SW.out.bR.cell 1
        have cR2 := SW.out.bR.cell 2
        have fR0 := SW.out.bR.frozen 0
        have fR1 := SW.out.bR.frozen 1
        have fR2 := SW.out.bR.frozen 2
        have cY0 := SW.out.bY.cell 0
        have cY1 := SW.out.bY.cell 1
        have lY := SW.out.bY.lt
        have cZ0 := SW.out.bZ.cell 0
        have cZ1 := SW.out.bZ.cell 1
        have lZ := SW.out.bZ.lt
        simp only [List.getElem?_toArray, List.getElem?_cons_zero, List.getElem?_cons_succ] at cX0 cX1 cX2 cR0 cR1 cR2 cY0 cY1 cZ0 cZ1
        clear cR0 cR1 cR2 fR0 fR1 fR2
        go_wp2_with (at_builtin; refine wpList_append_src W rfl _ _ _ rfl W.heap.size 42 i0 _ 4 32 Try.underlying37 hi hz0 hz1 hz2 rfl (by omega) _ 0 [] rfl (World.ownsRow_nil W W.heap.size 42 4) B m d (cutCells P) rfl hAz.out hlen.out hnews.out (fun u hu => cutCells_one P u hu) (by simp only [maxLen]; omega) (by omega) (Nat.le_refl _) ?_)
        clear cX0 cX1 cX2 cY0 cY1 cZ0 cZ1 lX lY lZ lR hnews hAz hlen
        intro v8 w8 hr8 hg8 hat8
        have hb8 : Below W.heap.size W w8 := Below.grew hg8 (by intro k hk; cases hk) (Nat.le_refl _)
        have S8 := Lib.hid (SW.out.next hb8)
        have hr8' : w8.ownsRow W.heap.size 42 4 v8 m (cutCells P) := by simpa using hr8
        have R8 := Lib.hid hr8'
        have HS8 : Hid (W.heap.size ≤ w8.heap.size) := hb8.size
        have HXW : Hid (w.heap.size < W.heap.size) := SW.out.bX.lt
        have HRW : Hid (R < W.heap.size) := SW.out.bR.lt
        have HYW : Hid (Y < W.heap.size) := SW.out.bY.lt
        have HZW : Hid (Z < W.heap.size) := SW.out.bZ.lt
        clear hr8 hg8 hat8 hr8'
        have cX0 := S8.out.bX.cell 0
        have cX1 := S8.out.bX.cell 1
        have cX2 := S8.out.bX.cell 2
        have lX := S8.out.bX.lt
        have lR := S8.out.bR.lt
        have cR0 := S8.out.bR.cell 0
        have cR1 := S8.out.bR.cell 1
        have cR2 := S8.out.bR.cell 2
        have fR0 := S8.out.bR.frozen 0
        have fR1 := S8.out.bR.frozen 1
        have fR2 := S8.out.bR.frozen 2
        have cY0 := S8.out.bY.cell 0
        have cY1 := S8.out.bY.cell 1
        have lY := S8.out.bY.lt
        have cZ0 := S8.out.bZ.cell 0
        have cZ1 := S8.out.bZ.cell 1
        have lZ := S8.out.bZ.lt
        simp only [List.getElem?_toArray, List.getElem?_cons_zero, List.getElem?_cons_succ] at cX0 cX1 cX2 cR0 cR1 cR2 cY0 cY1 cZ0 cZ1
        have bl9 : Below w8.heap.size w8 (w8.alloc (.cells #[.int .i64 b1, .int .i64 b2, .int .i64 x1, .int .i64 x2] 42)) := (Below.refl _ _).alloc (Nat.le_refl _) _
        have S9 := Lib.hid (S8.out.next bl9)
        have R9 := Lib.hid (ownsRow_kept R8.out (w' := w8.alloc (.cells #[.int .i64 b1, .int .i64 b2, .int .i64 x1, .int .i64 x2] 42)) (fun g _ hg => bl9.block g hg))
        have HS9 : Hid (W.heap.size ≤ (w8.alloc (.cells #[.int .i64 b1, .int .i64 b2, .int .i64 x1, .int .i64 x2] 42)).heap.size) := Nat.le_trans HS8.out bl9.size
        have HB9 := Lib.hid (hb8.trans (bl9.mono hb8.size))
        clear bl9 hb8 S8 R8 cR0 cR1 cR2 fR0 fR1 fR2
        go_wp2_with (at_builtin; refine wpList_append_own_at _ rfl _ _ _ rfl W.heap.size 42 i0 _ 4 32 Try.underlying37 hi hz0 hz1 hz2 rfl (by omega) _ _ _ rfl R9.out ⟨w8.heap.size, 0, none⟩ 1 1 [.int .i64 b1, .int .i64 b2, .int .i64 x1, .int .i64 x2] rfl rfl (news_new w8 w8.heap.size rfl #[.int .i64 b1, .int .i64 b2, .int .i64 x1, .int .i64 x2] 42) (by simp [Value.oneCell']) (by simp only [maxLen]; omega) (by omega) HS9.out ?_; intro v' w10 hr10 hg10 _ hat10; obtain ⟨gN, cN, rfl⟩ := ownsRow_slice hr10 (by omega); have hb10 : Below W.heap.size (w8.alloc (.cells #[.int .i64 b1, .int .i64 b2, .int .i64 x1, .int .i64 x2] 42)) w10 := Below.grew hg10 (ownsRow_base R9.out) HS9.out; have hb8' : Below W.heap.size W w10 := (HB9.out).trans hb10; have S10 := Lib.hid (SW.out.next hb8'); have R10 := Lib.hid hr10; have hgN : Hid (W.heap.size ≤ gN) := ownsRow_base hr10 gN rfl; clear hr10 hg10 hat10 hb10 hb8' cX0 cX1 cX2 cY0 cY1 cZ0 cZ1 lX lY lZ lR S9 R9; have fX1 := S10.out.bX.frozen 1; have hxr1 := HXR.out; have hxr2 := HXR.out.symm; have cX0 := S10.out.bX.cell 0; have cX1 := S10.out.bX.cell 1; have cX2 := S10.out.bX.cell 2; have lX := S10.out.bX.lt; have lR := S10.out.bR.lt; have cR0 := S10.out.bR.cell 0; have cR1 := S10.out.bR.cell 1; have cR2 := S10.out.bR.cell 2; have fR0 := S10.out.bR.frozen 0; have fR1 := S10.out.bR.frozen 1; have fR2 := S10.out.bR.frozen 2; have cY0 := S10.out.bY.cell 0; have cY1 := S10.out.bY.cell 1; have lY := S10.out.bY.lt; have cZ0 := S10.out.bZ.cell 0; have cZ1 := S10.out.bZ.cell 1; have lZ := S10.out.bZ.lt; simp only [List.getElem?_toArray, List.getElem?_cons_zero, List.getElem?_cons_succ] at cX0 cX1 cX2 cR0 cR1 cR2 cY0 cY1 cZ0 cZ1)
        have e3 : insS F P (b1, b2) (x1, x2) = 0 := by
          unfold insS
          rw [if_neg hz.out, if_neg (by rw [HQ2.out]; decide), if_neg (by rintro ⟨h1, h2⟩; rcases hb.out with ⟨rfl, rfl⟩ | h3; exact h1 rfl; rw [h3] at h2; cases h2), if_neg (by rw [Hn.out, Hm.out]; omega)]
        have e4 : insPuts F P (b1, b2) (x1, x2) = P ++ [((b1, b2), (x1, x2))] := by unfold insPuts; rw [e3]; rfl
        have E3 := Lib.hid e3
        have E4 := Lib.hid e4
        clear e3 e4
        clear cX0 cX1 cX2 cR0 cR1 cR2 cY0 cY1 cZ0 cZ1 lX lY lZ lR fR0 fR1 fR2 fX1
        have bR := (S10.out.bR.far (p := ⟨w.heap.size, 1, none⟩) HXR.out.symm (.slice (some ⟨gN, 0, none⟩) (m + 1) cN)).set3 (.slice A n c) (.slice (some ⟨gN, 0, none⟩) (m + 1) cN) (.slice C k f)
        have r0 := bR.cell 0
        have r1 := bR.cell 1
        have r2 := bR.cell 2
        simp only [List.getElem?_toArray, List.getElem?_cons_zero, List.getElem?_cons_succ] at r0 r1 r2
        refine bodyPost_ret (v := .tuple #[.agg #[(.slice A n c), (.slice (some ⟨gN, 0, none⟩) (m + 1) cN), (.slice C k f)], .int .i64 0]) (by simp [results, Try.results48, go_sem, r0, r1, r2]) rfl ?_
        have bl := below_set3 (S10.out.bel.setCell (p := ⟨w.heap.size, 1, none⟩) (Nat.le_refl _) (.slice (some ⟨gN, 0, none⟩) (m + 1) cN)) HRw.out (.slice A n c) (.slice (some ⟨gN, 0, none⟩) (m + 1) cN) (.slice C k f)
        have row : Row (((((w10.setCell ⟨w.heap.size, 1, none⟩ (.slice (some ⟨gN, 0, none⟩) (m + 1) cN)).setCell ⟨R, 0, none⟩ (.slice A n c)).setCell ⟨R, 1, none⟩ (.slice (some ⟨gN, 0, none⟩) (m + 1) cN))).setCell ⟨R, 2, none⟩ (.slice C k f)) own 0 42 4 (.slice (some ⟨gN, 0, none⟩) (m + 1) cN) (P.length + 1) (cutCells (P ++ [((b1, b2), (x1, x2))])) := by
          refine ⟨ownsRow_kept (ownsRow_weak (b' := 0) (by rw [Hm.out, cutCells_app]; simpa [cutCells] using R10.out) (Nat.zero_le _)) (fun g hg _ => ?_), fun g hg => ?_⟩
          · have eg : g = gN := by simpa [Value.ownBlock] using hg.symm
            subst eg
            have h1 : g ≠ w.heap.size := by have := hgN.out; have := HXW.out; omega
            have h2 : g ≠ R := by have := hgN.out; have := HRW.out; omega
            rw [Below.heap_setCell _ _ _ _ h2, Below.heap_setCell _ _ _ _ h2, Below.heap_setCell _ _ _ _ h2, Below.heap_setCell _ _ _ _ h1]
          · have eg : g = gN := by simpa [Value.ownBlock] using hg.symm
            subst eg
            exact HF.out.new (by have := hgN.out; have := HXW.out; omega)
        rw [E3.out, E4.out]
        refine ⟨A, some ⟨gN, 0, none⟩, C, c, cN, f, by simp only [List.length_append, List.length_singleton, Hn.out, Hm.out, Hk.out], bl, ?_⟩
        have s0 := H0.out.next bl
        rw [Hm.out] at row
        exact ⟨s0.i, row.toPuts.2, s0.k, (fun e => by cases e), s0.zk⟩
    · skip
      go_wp2_with fail
      clear cX0 cX1 cX2 cR0 cR1 cR2 cY0 cY1 cZ0 cZ1 lX lY lZ lR fR0 fR1 fR2
      have bR := S2.out.bR.set3 (.slice A n c) (.slice B m d) (.slice C k f)
      have r0 := bR.cell 0
      have r1 := bR.cell 1
      have r2 := bR.cell 2
      simp only [List.getElem?_toArray, List.getElem?_cons_zero, List.getElem?_cons_succ] at r0 r1 r2
      refine bodyPost_ret (v := .tuple #[.agg #[.slice A n c, .slice B m d, .slice C k f], .int .i64 4]) (by simp [results, Try.results48, go_sem, r0, r1, r2]) rfl ?_
      have bl := below_set3 S2.out.bel HRw.out (.slice A n c) (.slice B m d) (.slice C k f)
      have e3 : insS F P (b1, b2) (x1, x2) = 4 := by
        unfold insS
        rw [if_neg hz.out, if_pos HQ2.out]
      have e4 : insPuts F P (b1, b2) (x1, x2) = P := by unfold insPuts; rw [e3]; rfl
      rw [e3, e4]
      exact ⟨A, B, C, c, d, f, by rw [Hn.out, Hm.out, Hk.out], bl, H0.out.next bl⟩
  · skip
    go_wp2_with fail
    clear cX0 cX1 cX2 cR0 cR1 cR2 cY0 cY1 cZ0 cZ1 lX lY lZ lR fR0 fR1 fR2
    have bR := S1.out.bR.set3 (.slice A n c) (.slice B m d) (.slice C k f)
    have r0 := bR.cell 0
    have r1 := bR.cell 1
    have r2 := bR.cell 2
    simp only [List.getElem?_toArray, List.getElem?_cons_zero, List.getElem?_cons_succ] at r0 r1 r2
    refine bodyPost_ret (v := .tuple #[.agg #[.slice A n c, .slice B m d, .slice C k f], .int .i64 1]) (by simp [results, Try.results48, go_sem, r0, r1, r2]) rfl ?_
    have bl := below_set3 S1.out.bel HRw.out (.slice A n c) (.slice B m d) (.slice C k f)
    have e3 : insS F P (b1, b2) (x1, x2) = 1 := by
      unfold insS
      rw [if_pos (of_decide_eq_true HQ.out)]
    have e4 : insPuts F P (b1, b2) (x1, x2) = P := by unfold insPuts; rw [e3]; rfl
    rw [e3, e4]
    exact ⟨A, B, C, c, d, f, by rw [Hn.out, Hm.out, Hk.out], bl, H0.out.next bl⟩

set_option maxRecDepth 100000 in
set_option maxHeartbeats 4000000 in
theorem rdel47_c (A B C : Option Addr) (n c m d k f : Nat) (F : List Id) (P K : List (Id × Id)) (b1 b2 x1 x2 : Int) (w : World) (own : Tags) (h : RefS w own A B C d f F P K) (hf : Fresh own w) (hn : F.length = n) (hm : P.length = m) (hk : K.length = k) (hl : n + m < 1000) (hl2 : k < 1000) :
    Calls Try.prog 47 #[.agg #[.slice A n c, .slice B m d, .slice C k f], .agg #[.int .i64 b1, .int .i64 b2], .agg #[.int .i64 x1, .int .i64 x2]] w (RInsP w own F P (cutCuts F P K (b1, b2) (x1, x2)) (cutS F P K (b1, b2) (x1, x2))) := by
  have S0 := Lib.hid (RI.start (n := n) (c := c) (m := m) (d := d) (k := k) (e := f) (b1 := b1) (b2 := b2) (x1 := x1) (x2 := x2) h)
  have H0 := Lib.hid h
  have Hn := Lib.hid hn
  have Hm := Lib.hid hm
  have Hk := Lib.hid hk
  have HF := Lib.hid hf
  have HRw : Hid (w.heap.size ≤ w.heap.size + 1 + 1 + 1) := by show _ ≤ _; omega
  have HXw : Hid (w.heap.size ≤ w.heap.size) := Nat.le_refl _
  have HXR : Hid (w.heap.size ≠ w.heap.size + 1 + 1 + 1) := by show _ ≠ _; omega
  have HYX : Hid (w.heap.size + 1 ≠ w.heap.size) := by show _ ≠ _; omega
  have HZX : Hid (w.heap.size + 1 + 1 ≠ w.heap.size) := by show _ ≠ _; omega
  clear h hn hm hf hk
  go_enter Try.func47, Try.ntmps47
  go_wp2_with fail
  generalize (((w.alloc (.cells #[.slice A n c, .slice B m d, .slice C k f] 80)).alloc (.cells #[.int .i64 b1, .int .i64 b2] 24)).alloc (.cells #[.int .i64 x1, .int .i64 x2] 24)).alloc (.cells #[.slice none 0 0, .slice none 0 0, .slice none 0 0] 80) = V at *
  generalize w.heap.size + 1 + 1 + 1 = R at *
  generalize w.heap.size + 1 + 1 = Z at *
  generalize w.heap.size + 1 = Y at *
  refine (zero72_c x1 x2 V).mono ?_
  rintro e w1 ⟨rfl, hb1⟩
  have S1 := Lib.hid (S0.out.next hb1)
  obtain ⟨q, hq⟩ : ∃ q, decide ((x1, x2) = (0, 0)) = q := ⟨_, rfl⟩
  rw [hq]
  have HQ := Lib.hid hq
  clear hq hb1 S0
  have cX0 := S1.out.bX.cell 0
  have cX1 := S1.out.bX.cell 1
  have cX2 := S1.out.bX.cell 2
  have lX := S1.out.bX.lt
  have lR := S1.out.bR.lt
  have cR0 := S1.out.bR.cell 0
  have cR1 := S1.out.bR.cell 1
  have cR2 := S1.out.bR.cell 2
  have fR0 := S1.out.bR.frozen 0
  have fR1 := S1.out.bR.frozen 1
  have fR2 := S1.out.bR.frozen 2
  have cY0 := S1.out.bY.cell 0
  have cY1 := S1.out.bY.cell 1
  have lY := S1.out.bY.lt
  have cZ0 := S1.out.bZ.cell 0
  have cZ1 := S1.out.bZ.cell 1
  have lZ := S1.out.bZ.lt
  simp only [List.getElem?_toArray, List.getElem?_cons_zero, List.getElem?_cons_succ] at cX0 cX1 cX2 cR0 cR1 cR2 cY0 cY1 cZ0 cZ1
  cases q
  · have hz := Lib.hid (of_decide_eq_false HQ.out)
    go_wp2_with fail
    clear cX0 cX1 cX2 cR0 cR1 cR2 cY0 cY1 cZ0 cZ1 lX lY lZ lR fR0 fR1 fR2
    refine (has49_c A B C n c m d k f F P K b1 b2 w1 own S1.out.s Hn.out Hm.out (by omega) (by omega)).mono ?_
    rintro e w2 ⟨rfl, hb2⟩
    have S2 := Lib.hid (S1.out.next hb2)
    obtain ⟨q, hq⟩ : ∃ q, has F P (b1, b2) = q := ⟨_, rfl⟩
    rw [hq]
    have HQ2 := Lib.hid hq
    clear hq hb2 S1
    have cX0 := S2.out.bX.cell 0
    have cX1 := S2.out.bX.cell 1
    have cX2 := S2.out.bX.cell 2
    have lX := S2.out.bX.lt
    have lR := S2.out.bR.lt
    have cR0 := S2.out.bR.cell 0
    have cR1 := S2.out.bR.cell 1
    have cR2 := S2.out.bR.cell 2
    have fR0 := S2.out.bR.frozen 0
    have fR1 := S2.out.bR.frozen 1
    have fR2 := S2.out.bR.frozen 2
    have cY0 := S2.out.bY.cell 0
    have cY1 := S2.out.bY.cell 1
    have lY := S2.out.bY.lt
    have cZ0 := S2.out.bZ.cell 0
    have cZ1 := S2.out.bZ.cell 1
    have lZ := S2.out.bZ.lt
    simp only [List.getElem?_toArray, List.getElem?_cons_zero, List.getElem?_cons_succ] at cX0 cX1 cX2 cR0 cR1 cR2 cY0 cY1 cZ0 cZ1
    cases q
    · skip
      go_wp2_with fail
      clear cX0 cX1 cX2 cR0 cR1 cR2 cY0 cY1 cZ0 cZ1 lX lY lZ lR fR0 fR1 fR2
      have bR := S2.out.bR.set3 (.slice A n c) (.slice B m d) (.slice C k f)
      have r0 := bR.cell 0
      have r1 := bR.cell 1
      have r2 := bR.cell 2
      simp only [List.getElem?_toArray, List.getElem?_cons_zero, List.getElem?_cons_succ] at r0 r1 r2
      refine bodyPost_ret (v := .tuple #[.agg #[.slice A n c, .slice B m d, .slice C k f], .int .i64 3]) (by simp [results, Try.results47, go_sem, r0, r1, r2]) rfl ?_
      have bl := below_set3 S2.out.bel HRw.out (.slice A n c) (.slice B m d) (.slice C k f)
      have e3 : cutS F P K (b1, b2) (x1, x2) = 3 := by
        unfold cutS
        rw [if_neg hz.out, if_pos HQ2.out]
      have e4 : cutCuts F P K (b1, b2) (x1, x2) = K := by unfold cutCuts; rw [e3]; rfl
      rw [e3, e4]
      exact ⟨A, B, C, c, d, f, by rw [Hn.out, Hm.out, Hk.out], bl, H0.out.next bl⟩
    · go_wp2_with fail
      clear cX0 cX1 cX2 cR0 cR1 cR2 cY0 cY1 cZ0 cZ1 lX lY lZ lR fR0 fR1 fR2
      go_loopw [8] (fun i wr => ∃ (j : Nat), j ≤ k ∧ i = .int .i64 j ∧ Hid (∀ i z, i < j → K[i]? = some z → z.2 ≠ (x1, x2)) ∧ Hid (RI w own A B C n c m d k f F P K b1 b2 x1 x2 w.heap.size Y Z R wr)) (fun i _ => k - (intOf i).toNat)
      case atStart => exact ⟨0, Nat.zero_le _, rfl, (fun i _ hi => absurd hi (by omega)), S2.out⟩
      case round =>
        clear S2
        obtain ⟨j, hj, rfl, hno, SW⟩ := hrel
        by_cases hlt : j < k
        · have hkl : j < K.length := by rw [Hk.out]; exact hlt
          obtain ⟨bb1, o1, rfl, _, _, hc1⟩ := SW.out.s.k.puts (fun e => by rw [e] at hkl; simp at hkl)
          obtain ⟨_, _, g1, g2⟩ := hc1 j hkl
          have e1 := Lib.hid (List.getElem?_eq_getElem hkl)
          clear hc1
          generalize K[j] = z at *
          obtain ⟨z0, ⟨z1, z2⟩⟩ := z
          dsimp only at g1 g2
          have hk0 : (0 : Int) ≤ (j : Int) := by omega
          have hkn : (j : Int) < (k : Int) := by omega
          have cX0 := SW.out.bX.cell 0
          have cX1 := SW.out.bX.cell 1
          have cX2 := SW.out.bX.cell 2
          have lX := SW.out.bX.lt
          have lR := SW.out.bR.lt
          have cR0 := SW.out.bR.cell 0
          have cR1 := SW.out.bR.cell 1
          have cR2 := SW.out.bR.cell 2
          have fR0 := SW.out.bR.frozen 0
          have fR1 := SW.out.bR.frozen 1
          have fR2 := SW.out.bR.frozen 2
          have cY0 := SW.out.bY.cell 0
          have cY1 := SW.out.bY.cell 1
          have lY := SW.out.bY.lt
          have cZ0 := SW.out.bZ.cell 0
          have cZ1 := SW.out.bZ.cell 1
          have lZ := SW.out.bZ.lt
          simp only [List.getElem?_toArray, List.getElem?_cons_zero, List.getElem?_cons_succ] at cX0 cX1 cX2 cR0 cR1 cR2 cY0 cY1 cZ0 cZ1
          have HC : AllCells wr.drew [(⟨bb1, o1 + j * 4 + 2, none⟩, .int .i64 z1), (⟨bb1, o1 + j * 4 + 3, none⟩, .int .i64 z2), (⟨w.heap.size, 2, none⟩, .slice (some ⟨bb1, o1, none⟩) k f), (⟨Z, 0, none⟩, .int .i64 x1), (⟨Z, 1, none⟩, .int .i64 x2)] := ⟨g1, g2, cX2, cZ0, cZ1, trivial⟩
          go_wp2_with fail
          refine region_free _ [0, 1, 2, 3, 4, 5, 6] 1 (by kernel_rfl) (by kernel_rfl) (by kernel_rfl) (by kernel_rfl) (by kernel_rfl) (fun _ _ _ _ _ h => h) HC ?_
          intro hne hu
          simp only [AllCells] at hu
          simp only [pick, List.take_succ_cons, List.take_zero, List.drop_succ_cons, List.drop_zero, List.cons_append, List.nil_append]
          repeat (go_big_quiet_step (fail))
          refine wpQuiet_nil ?_
          clear hne hu
          refine anyN_oneL 7 (by kernel_rfl) ?_
          simp only [List.take_succ_cons, List.take_zero, List.drop_succ_cons, List.drop_zero]
          go_wp2_with fail
          refine (same62_c z1 z2 x1 x2 wr.drew).mono ?_
          rintro e w3 ⟨rfl, hb3⟩
          obtain ⟨q, hq⟩ : ∃ q, decide ((z1, z2) = (x1, x2)) = q := ⟨_, rfl⟩
          rw [hq]
          have HQ3 := Lib.hid hq
          clear hq
          have HC1 := AllCells.below (show AllCells wr.drew _ from HC) hb3
          have S3 := Lib.hid (SW.out.next ((Below.refl _ wr).drew.trans (hb3.mono (Nat.le_refl _))))
          clear hb3 SW
          go_wp2_with fail
          refine And.intro (fun _ => HC1) ?_
          refine ⟨by kernel_rfl, ?_⟩
          clear HC HC1 g1 g2
          clear cX0 cX1 cX2 cR0 cR1 cR2 cY0 cY1 cZ0 cZ1 lX lY lZ lR fR0 fR1 fR2
          cases q
          · have Hq := Lib.hid (of_decide_eq_false HQ3.out)
            go_wp2_with fail
            go_roundw
            case rel =>
              refine ⟨j + 1, by omega, by go_num, ?_, S3.out⟩
              intro i z hi hzz
              by_cases hij : i < j
              · exact hno.out i z hij hzz
              · have : i = j := by omega
                subst this
                have := Option.some.inj (hzz.symm.trans e1.out)
                subst this
                exact Hq.out
            case measure => simp [intOf]; omega
          · have Hq := Lib.hid (of_decide_eq_true HQ3.out)
            have cX0 := S3.out.bX.cell 0
            have cX1 := S3.out.bX.cell 1
            have cX2 := S3.out.bX.cell 2
            have lX := S3.out.bX.lt
            have lR := S3.out.bR.lt
            have cR0 := S3.out.bR.cell 0
            have cR1 := S3.out.bR.cell 1
            have cR2 := S3.out.bR.cell 2
            have fR0 := S3.out.bR.frozen 0
            have fR1 := S3.out.bR.frozen 1
            have fR2 := S3.out.bR.frozen 2
            have cY0 := S3.out.bY.cell 0
            have cY1 := S3.out.bY.cell 1
            have lY := S3.out.bY.lt
            have cZ0 := S3.out.bZ.cell 0
            have cZ1 := S3.out.bZ.cell 1
            have lZ := S3.out.bZ.lt
            simp only [List.getElem?_toArray, List.getElem?_cons_zero, List.getElem?_cons_succ] at cX0 cX1 cX2 cR0 cR1 cR2 cY0 cY1 cZ0 cZ1
            go_wp2_with fail
            clear cX0 cX1 cX2 cR0 cR1 cR2 cY0 cY1 cZ0 cZ1 lX lY lZ lR fR0 fR1 fR2
            have bR := S3.out.bR.set3 (.slice A n c) (.slice B m d) (.slice (some ⟨bb1, o1, none⟩) k f)
            have r0 := bR.cell 0
            have r1 := bR.cell 1
            have r2 := bR.cell 2
            simp only [List.getElem?_toArray, List.getElem?_cons_zero, List.getElem?_cons_succ] at r0 r1 r2
            refine bodyPost_ret (v := .tuple #[.agg #[.slice A n c, .slice B m d, .slice (some ⟨bb1, o1, none⟩) k f], .int .i64 4]) (by simp [results, Try.results47, go_sem, r0, r1, r2]) rfl ?_
            have bl := below_set3 S3.out.bel HRw.out (.slice A n c) (.slice B m d) (.slice (some ⟨bb1, o1, none⟩) k f)
            have e3 : cutS F P K (b1, b2) (x1, x2) = 4 := by
              unfold cutS
              rw [if_neg hz.out, if_neg (by rw [HQ2.out]; decide), if_pos (by rw [← Hq.out]; exact List.mem_map.2 ⟨_, List.mem_of_getElem? e1.out, rfl⟩)]
            have e4 : cutCuts F P K (b1, b2) (x1, x2) = K := by unfold cutCuts; rw [e3]; rfl
            rw [e3, e4]
            exact ⟨A, B, some ⟨bb1, o1, none⟩, c, d, f, by rw [Hn.out, Hm.out, Hk.out], bl, H0.out.next bl⟩
        · have hkn : ¬ ((j : Int) < (k : Int)) := by omega
          have hkk : j = k := by omega
          subst hkk
          generalize wr = W at *
          have hnews : Hid (∀ ad, C = some ad → ∀ j u, (cutCells K)[j]? = some u → W.cell? (ad.add j) = some u) := fun ad had => by
            cases had
            exact SW.out.s.k.cells
          have hAz := Lib.hid (SW.out.s.k.nils Hk.out SW.out.s.zk)
          have hlen : Hid ((cutCells K).length = j * 4) := by show _ = _; rw [length_cutCells, Hk.out]
          obtain ⟨i0, hi, hz0, hz1, hz2⟩ := info_parts Try.info115z
          have cX0 := SW.out.bX.cell 0
          have cX1 := SW.out.bX.cell 1
          have cX2 := SW.out.bX.cell 2
          have lX := SW.out.bX.lt
          have lR := SW.out.bR.lt
          have cR0 := SW.out.bR.cell 0
          have cR1 := SW.out.bR.cell 1
          have cR2 := SW.out.bR.cell 2
          have fR0 := SW.out.bR.frozen 0
          have fR1 := SW.out.bR.frozen 1
          have fR2 := SW.out.bR.frozen 2
          have cY0 := SW.out.bY.cell 0
          have cY1 := SW.out.bY.cell 1
          have lY := SW.out.bY.lt
          have cZ0 := SW.out.bZ.cell 0
          have cZ1 := SW.out.bZ.cell 1
          have lZ := SW.out.bZ.lt
          simp only [List.getElem?_toArray, List.getElem?_cons_zero, List.getElem?_cons_succ] at cX0 cX1 cX2 cR0 cR1 cR2 cY0 cY1 cZ0 cZ1
          clear cR0 cR1 cR2 fR0 fR1 fR2
          go_wp2_with (at_builtin; refine wpList_append_src W rfl _ _ _ rfl W.heap.size 115 i0 _ 4 32 Try.underlying78 hi hz0 hz1 hz2 rfl (by omega) _ 0 [] rfl (World.ownsRow_nil W W.heap.size 115 4) C j f (cutCells K) rfl hAz.out hlen.out hnews.out (fun u hu => cutCells_one K u hu) (by simp only [maxLen]; omega) (by omega) (Nat.le_refl _) ?_)
          clear cX0 cX1 cX2 cY0 cY1 cZ0 cZ1 lX lY lZ lR hnews hAz hlen
          intro v8 w8 hr8 hg8 hat8
          have hb8 : Below W.heap.size W w8 := Below.grew hg8 (by intro k hk; cases hk) (Nat.le_refl _)
          have S8 := Lib.hid (SW.out.next hb8)
          have hr8' : w8.ownsRow W.heap.size 115 4 v8 j (cutCells K) := by simpa using hr8
          have R8 := Lib.hid hr8'
          have HS8 : Hid (W.heap.size ≤ w8.heap.size) := hb8.size
          have HXW : Hid (w.heap.size < W.heap.size) := SW.out.bX.lt
          have HRW : Hid (R < W.heap.size) := SW.out.bR.lt
          have HYW : Hid (Y < W.heap.size) := SW.out.bY.lt
          have HZW : Hid (Z < W.heap.size) := SW.out.bZ.lt
          clear hr8 hg8 hat8 hr8'
          have cX0 := S8.out.bX.cell 0
          have cX1 := S8.out.bX.cell 1
          have cX2 := S8.out.bX.cell 2
          have lX := S8.out.bX.lt
          have lR := S8.out.bR.lt
          have cR0 := S8.out.bR.cell 0
          have cR1 := S8.out.bR.cell 1
          have cR2 := S8.out.bR.cell 2
          have fR0 := S8.out.bR.frozen 0
          have fR1 := S8.out.bR.frozen 1
          have fR2 := S8.out.bR.frozen 2
          have cY0 := S8.out.bY.cell 0
          have cY1 := S8.out.bY.cell 1
          have lY := S8.out.bY.lt
          have cZ0 := S8.out.bZ.cell 0
          have cZ1 := S8.out.bZ.cell 1
          have lZ := S8.out.bZ.lt
          simp only [List.getElem?_toArray, List.getElem?_cons_zero, List.getElem?_cons_succ] at cX0 cX1 cX2 cR0 cR1 cR2 cY0 cY1 cZ0 cZ1
          have bl9 : Below w8.heap.size w8 (w8.alloc (.cells #[.int .i64 b1, .int .i64 b2, .int .i64 x1, .int .i64 x2] 115)) := (Below.refl _ _).alloc (Nat.le_refl _) _
          have S9 := Lib.hid (S8.out.next bl9)
          have R9 := Lib.hid (ownsRow_kept R8.out (w' := w8.alloc (.cells #[.int .i64 b1, .int .i64 b2, .int .i64 x1, .int .i64 x2] 115)) (fun g _ hg => bl9.block g hg))
          have HS9 : Hid (W.heap.size ≤ (w8.alloc (.cells #[.int .i64 b1, .int .i64 b2, .int .i64 x1, .int .i64 x2] 115)).heap.size) := Nat.le_trans HS8.out bl9.size
          have HB9 := Lib.hid (hb8.trans (bl9.mono hb8.size))
          clear bl9 hb8 S8 R8 cR0 cR1 cR2 fR0 fR1 fR2
          go_wp2_with (at_builtin; refine wpList_append_own_at _ rfl _ _ _ rfl W.heap.size 115 i0 _ 4 32 Try.underlying78 hi hz0 hz1 hz2 rfl (by omega) _ _ _ rfl R9.out ⟨w8.heap.size, 0, none⟩ 1 1 [.int .i64 b1, .int .i64 b2, .int .i64 x1, .int .i64 x2] rfl rfl (news_new w8 w8.heap.size rfl #[.int .i64 b1, .int .i64 b2, .int .i64 x1, .int .i64 x2] 115) (by simp [Value.oneCell']) (by simp only [maxLen]; omega) (by omega) HS9.out ?_; intro v' w10 hr10 hg10 _ hat10; obtain ⟨gN, cN, rfl⟩ := ownsRow_slice hr10 (by omega); have hb10 : Below W.heap.size (w8.alloc (.cells #[.int .i64 b1, .int .i64 b2, .int .i64 x1, .int .i64 x2] 115)) w10 := Below.grew hg10 (ownsRow_base R9.out) HS9.out; have hb8' : Below W.heap.size W w10 := (HB9.out).trans hb10; have S10 := Lib.hid (SW.out.next hb8'); have R10 := Lib.hid hr10; have hgN : Hid (W.heap.size ≤ gN) := ownsRow_base hr10 gN rfl; clear hr10 hg10 hat10 hb10 hb8' cX0 cX1 cX2 cY0 cY1 cZ0 cZ1 lX lY lZ lR S9 R9; have fX1 := S10.out.bX.frozen 2; have hxr1 := HXR.out; have hxr2 := HXR.out.symm; have cX0 := S10.out.bX.cell 0; have cX1 := S10.out.bX.cell 1; have cX2 := S10.out.bX.cell 2; have lX := S10.out.bX.lt; have lR := S10.out.bR.lt; have cR0 := S10.out.bR.cell 0; have cR1 := S10.out.bR.cell 1; have cR2 := S10.out.bR.cell 2; have fR0 := S10.out.bR.frozen 0; have fR1 := S10.out.bR.frozen 1; have fR2 := S10.out.bR.frozen 2; have cY0 := S10.out.bY.cell 0; have cY1 := S10.out.bY.cell 1; have lY := S10.out.bY.lt; have cZ0 := S10.out.bZ.cell 0; have cZ1 := S10.out.bZ.cell 1; have lZ := S10.out.bZ.lt; simp only [List.getElem?_toArray, List.getElem?_cons_zero, List.getElem?_cons_succ] at cX0 cX1 cX2 cR0 cR1 cR2 cY0 cY1 cZ0 cZ1)
          have e3 : cutS F P K (b1, b2) (x1, x2) = 0 := by
            unfold cutS
            rw [if_neg hz.out, if_neg (by rw [HQ2.out]; decide), if_neg (by
              intro hm
              obtain ⟨p, hp, hpe⟩ := List.mem_map.1 hm
              obtain ⟨i, hi⟩ := List.mem_iff_getElem?.1 hp
              have := (List.getElem?_eq_some_iff.1 hi).1
              rw [Hk.out] at this
              exact hno.out i _ this hi hpe)]
          have e4 : cutCuts F P K (b1, b2) (x1, x2) = K ++ [((b1, b2), (x1, x2))] := by unfold cutCuts; rw [e3]; rfl
          have E3 := Lib.hid e3
          have E4 := Lib.hid e4
          clear e3 e4
          clear cX0 cX1 cX2 cR0 cR1 cR2 cY0 cY1 cZ0 cZ1 lX lY lZ lR fR0 fR1 fR2 fX1
          have bR := (S10.out.bR.far (p := ⟨w.heap.size, 2, none⟩) HXR.out.symm (.slice (some ⟨gN, 0, none⟩) (j + 1) cN)).set3 (.slice A n c) (.slice B m d) (.slice (some ⟨gN, 0, none⟩) (j + 1) cN)
          have r0 := bR.cell 0
          have r1 := bR.cell 1
          have r2 := bR.cell 2
          simp only [List.getElem?_toArray, List.getElem?_cons_zero, List.getElem?_cons_succ] at r0 r1 r2
          refine bodyPost_ret (v := .tuple #[.agg #[(.slice A n c), (.slice B m d), (.slice (some ⟨gN, 0, none⟩) (j + 1) cN)], .int .i64 0]) (by simp [results, Try.results47, go_sem, r0, r1, r2]) rfl ?_
          have bl := below_set3 (S10.out.bel.setCell (p := ⟨w.heap.size, 2, none⟩) (Nat.le_refl _) (.slice (some ⟨gN, 0, none⟩) (j + 1) cN)) HRw.out (.slice A n c) (.slice B m d) (.slice (some ⟨gN, 0, none⟩) (j + 1) cN)
          have row : Row (((((w10.setCell ⟨w.heap.size, 2, none⟩ (.slice (some ⟨gN, 0, none⟩) (j + 1) cN)).setCell ⟨R, 0, none⟩ (.slice A n c)).setCell ⟨R, 1, none⟩ (.slice B m d))).setCell ⟨R, 2, none⟩ (.slice (some ⟨gN, 0, none⟩) (j + 1) cN)) own 0 115 4 (.slice (some ⟨gN, 0, none⟩) (j + 1) cN) (K.length + 1) (cutCells (K ++ [((b1, b2), (x1, x2))])) := by
            refine ⟨ownsRow_kept (ownsRow_weak (b' := 0) (by rw [Hk.out, cutCells_app]; simpa [cutCells] using R10.out) (Nat.zero_le _)) (fun g hg _ => ?_), fun g hg => ?_⟩
            · have eg : g = gN := by simpa [Value.ownBlock] using hg.symm
              subst eg
              have h1 : g ≠ w.heap.size := by have := hgN.out; have := HXW.out; omega
              have h2 : g ≠ R := by have := hgN.out; have := HRW.out; omega
              rw [Below.heap_setCell _ _ _ _ h2, Below.heap_setCell _ _ _ _ h2, Below.heap_setCell _ _ _ _ h2, Below.heap_setCell _ _ _ _ h1]
            · have eg : g = gN := by simpa [Value.ownBlock] using hg.symm
              subst eg
              exact HF.out.new (by have := hgN.out; have := HXW.out; omega)
          rw [E3.out, E4.out]
          refine ⟨A, B, some ⟨gN, 0, none⟩, c, d, cN, by simp only [List.length_append, List.length_singleton, Hn.out, Hm.out, Hk.out], bl, ?_⟩
          have s0 := H0.out.next bl
          rw [Hk.out] at row
          exact ⟨s0.i, s0.p, row.toPuts.2, s0.zp, (fun e => by cases e)⟩
  · skip
    go_wp2_with fail
    clear cX0 cX1 cX2 cR0 cR1 cR2 cY0 cY1 cZ0 cZ1 lX lY lZ lR fR0 fR1 fR2
    have bR := S1.out.bR.set3 (.slice A n c) (.slice B m d) (.slice C k f)
    have r0 := bR.cell 0
    have r1 := bR.cell 1
    have r2 := bR.cell 2
    simp only [List.getElem?_toArray, List.getElem?_cons_zero, List.getElem?_cons_succ] at r0 r1 r2
    refine bodyPost_ret (v := .tuple #[.agg #[.slice A n c, .slice B m d, .slice C k f], .int .i64 1]) (by simp [results, Try.results47, go_sem, r0, r1, r2]) rfl ?_
    have bl := below_set3 S1.out.bel HRw.out (.slice A n c) (.slice B m d) (.slice C k f)
    have e3 : cutS F P K (b1, b2) (x1, x2) = 1 := by
      unfold cutS
      rw [if_pos (of_decide_eq_true HQ.out)]
    have e4 : cutCuts F P K (b1, b2) (x1, x2) = K := by unfold cutCuts; rw [e3]; rfl
    rw [e3, e4]
    exact ⟨A, B, C, c, d, f, by rw [Hn.out, Hm.out, Hk.out], bl, H0.out.next bl⟩

end Go.Proofs.Ytgmlhpkhecbkoaa
namespace Go.Proofs.Ytgmlhpkhecbkoaa
open Go.RowKit Go.Shelf

def liveR (F : List Id) (K : List (Id × Id)) (gl : List Id) (z : Id) : Bool := decide (∀ c ∈ K, c.1 = z → c.2 ∈ gl) && (decide (z ∈ F) || !decide (z ∈ gl))
theorem liveR_eq {F : List Id} {P K : List (Id × Id)} (hw : Wf F P) (gl : List Id) {z : Id} (hz : has F P z = true) : liveR F K gl z = liveB P K gl z := by
  unfold liveR liveB insB
  rw [Bool.and_comm]
  congr 1
  rcases has_iff.1 hz with h | h
  · have hn : z ∉ P.map Prod.snd := fun hh => hw.dis z hh h
    rw [decide_eq_true h, decide_eq_false hn]
    simp
  · have hn : z ∉ F := hw.dis z h
    rw [decide_eq_true h, decide_eq_false hn]
    simp
theorem liveR_no {F : List Id} {K : List (Id × Id)} {gl : List Id} {z : Id} {c : Id × Id} (h : c ∈ K) (h1 : c.1 = z) (h2 : c.2 ∉ gl) : liveR F K gl z = false := by
  unfold liveR
  rw [decide_eq_false (fun hh => h2 (hh c h h1))]
  rfl
theorem liveR_rest {F : List Id} {K : List (Id × Id)} {gl : List Id} {z : Id} (h : ∀ i c, i < K.length → K[i]? = some c → c.1 = z → c.2 ∈ gl) : liveR F K gl z = (decide (z ∈ F) || !decide (z ∈ gl)) := by
  unfold liveR
  rw [decide_eq_true (fun c hc hz => by
    obtain ⟨i, hi⟩ := List.mem_iff_getElem?.1 hc
    exact h i c (List.getElem?_eq_some_iff.1 hi).1 hi hz)]
  rfl

set_option maxRecDepth 100000 in
set_option maxHeartbeats 4000000 in
theorem live55_c (A B C G : Option Addr) (n c m d k f gn gc : Nat) (F : List Id) (P K : List (Id × Id)) (gl : List Id) (y1 y2 : Int) (w : World) (own own2 : Tags) (s : Nat) (h : RefS w own A B C d f F P K) (hG : IdsR w own2 s G gl) (hn : F.length = n) (hk : K.length = k) (hg : gl.length = gn) (hn1 : n ≤ 1000000) (hk1 : k ≤ 1000000) (hg1 : gn ≤ 1000000) :
    Calls Try.prog 55 #[.agg #[.slice A n c, .slice B m d, .slice C k f], .agg #[.int .i64 y1, .int .i64 y2], .slice G gn gc] w fun e w' => e = .returned (.bool (liveR F K gl (y1, y2))) ∧ Below w.heap.size w w' := by
  have HN := Lib.hid hn
  have HK := Lib.hid hk
  have HL := Lib.hid hg
  have bv : Below w.heap.size w ((w.alloc (.cells #[.slice A n c, .slice B m d, .slice C k f] 80)).alloc (.cells #[.int .i64 y1, .int .i64 y2] 24)) := ((Below.refl _ w).alloc (Nat.le_refl _) _).alloc (by simp) _
  have HS := Lib.hid (h.next bv)
  have HG := Lib.hid (hG.belowTo bv)
  have BV := Lib.hid bv
  have bX := Lib.hid ((Blk.new w 80 #[.slice A n c, .slice B m d, .slice C k f]).alloc (.cells #[.int .i64 y1, .int .i64 y2] 24))
  have bI := Lib.hid (Blk.new (w.alloc (.cells #[.slice A n c, .slice B m d, .slice C k f] 80)) 24 #[.int .i64 y1, .int .i64 y2])
  have hsz : (w.alloc (.cells #[.slice A n c, .slice B m d, .slice C k f] 80)).heap.size = w.heap.size + 1 := by simp
  rw [hsz] at bI
  clear hn hk hg h bv hsz hG
  go_enter Try.func55, Try.ntmps55
  go_wp2_with fail
  generalize (w.alloc (.cells #[.slice A n c, .slice B m d, .slice C k f] 80)).alloc (.cells #[.int .i64 y1, .int .i64 y2] 24) = V at *
  go_loopw [7] (fun i wr => ∃ j : Nat, j ≤ k ∧ i = .int .i64 j ∧ Hid (∀ i z, i < j → K[i]? = some z → z.1 = (y1, y2) → z.2 ∈ gl) ∧ Hid (Below V.heap.size V wr)) (fun i _ => k - (intOf i).toNat)
  case atStart => exact ⟨0, Nat.zero_le _, rfl, (fun j _ hj => absurd hj (by omega)), Below.refl _ _⟩
  case round =>
    obtain ⟨j, hj, rfl, hno, hbel⟩ := hrel
    have bx := bX.out.kept (hbel.out.block _ bX.out.lt)
    have x0 := bx.cell 0
    have x2 := bx.cell 2
    have bi := bI.out.kept (hbel.out.block _ bI.out.lt)
    have i0 := bi.cell 0
    have i1 := bi.cell 1
    have lx := bx.lt
    have li := bi.lt
    simp only [List.getElem?_toArray, List.getElem?_cons_zero, List.getElem?_cons_succ] at x0 x2 i0 i1
    clear bx bi
    by_cases hlt : j < k
    · have hkl : j < K.length := by rw [HK.out]; exact hlt
      obtain ⟨b1, o1, rfl, _, _, hc1⟩ := (HS.out.k.belowTo hbel.out).puts (fun e => by rw [e] at hkl; simp at hkl)
      obtain ⟨g1, g2, g3, g4⟩ := hc1 j hkl
      have e1 := Lib.hid (List.getElem?_eq_getElem hkl)
      clear hc1
      generalize K[j] = z at *
      obtain ⟨⟨t1, t2⟩, ⟨z1, z2⟩⟩ := z
      dsimp only at g1 g2 g3 g4
      have hk0 : (0 : Int) ≤ (j : Int) := by omega
      have hkn : (j : Int) < (k : Int) := by omega
      have HC : AllCells wr.drew [(⟨b1, o1 + j * 4, none⟩, .int .i64 t1), (⟨b1, o1 + j * 4 + 1, none⟩, .int .i64 t2), (⟨b1, o1 + j * 4 + 2, none⟩, .int .i64 z1), (⟨b1, o1 + j * 4 + 3, none⟩, .int .i64 z2), (⟨w.heap.size, 2, none⟩, .slice (some ⟨b1, o1, none⟩) k f), (⟨w.heap.size + 1, 0, none⟩, .int .i64 y1), (⟨w.heap.size + 1, 1, none⟩, .int .i64 y2)] := ⟨g1, g2, g3, g4, x2, i0, i1, trivial⟩
      go_wp2_with fail
      refine region_free _ [0, 1, 2, 3, 4, 5, 6] 12 (by kernel_rfl) (by kernel_rfl) (by kernel_rfl) (by kernel_rfl) (by kernel_rfl) (fun _ _ _ _ _ h => h) HC ?_
      intro hne hu
      simp only [AllCells] at hu
      simp only [pick, List.take_succ_cons, List.take_zero, List.drop_succ_cons, List.drop_zero, List.cons_append, List.nil_append]
      repeat (go_big_quiet_step (fail))
      refine wpQuiet_nil ?_
      clear hne hu
      refine anyN_oneL 7 (by kernel_rfl) ?_
      simp only [List.take_succ_cons, List.take_zero, List.drop_succ_cons, List.drop_zero]
      go_wp2_with fail
      refine (same62_c t1 t2 y1 y2 wr.drew).mono ?_
      rintro e w1 ⟨rfl, hb1⟩
      obtain ⟨q, hq⟩ : ∃ q, decide ((t1, t2) = (y1, y2)) = q := ⟨_, rfl⟩
      rw [hq]
      have HQ := Lib.hid hq
      clear hq
      have HC1 := AllCells.below (show AllCells wr.drew _ from HC) hb1
      have B1 := Lib.hid (hbel.out.trans (((Below.refl _ wr).drew.trans (hb1.mono (Nat.le_refl _))).mono hbel.out.size))
      clear hb1 hbel HC g1 g2 g3 g4 x0 x2 i0 i1
      go_wp2_with fail
      refine And.intro (fun _ => HC1) ?_
      cases q
      · have Hq := Lib.hid (of_decide_eq_false HQ.out)
        refine anyN_more [8, 9, 10, 11, 12, 13, 14, 15] 3 (by kernel_rfl) (by kernel_rfl) (by kernel_rfl) (by kernel_rfl) (fun _ _ _ _ _ h => h) HC1 ?_
        intro hne hu
        simp only [AllCells] at hu
        simp only [pick, List.take_succ_cons, List.take_zero, List.drop_succ_cons, List.drop_zero, List.cons_append, List.nil_append]
        repeat (go_big_quiet_step (fail))
        refine wpQuiet_nil ?_
        clear hne hu
        refine anyN_oneL 16 (by kernel_rfl) ?_
        simp only [List.take_succ_cons, List.take_zero, List.drop_succ_cons, List.drop_zero]
        go_wp2_with fail
        refine And.intro (fun _ => HC1) ?_
        refine anyN_more [17, 18] 0 (by kernel_rfl) (by kernel_rfl) (by kernel_rfl) (by kernel_rfl) (fun _ _ _ _ _ h => h) HC1 ?_
        intro hne hu
        simp only [AllCells] at hu
        simp only [pick, List.take_succ_cons, List.take_zero, List.drop_succ_cons, List.drop_zero, List.cons_append, List.nil_append]
        repeat (go_big_quiet_step (fail))
        refine wpQuiet_nil ?_
        clear hne hu
        refine ⟨by kernel_rfl, ?_⟩
        go_wp2_with fail
        go_roundw
        case rel =>
          refine ⟨j + 1, by omega, by go_num, ?_, B1.out⟩
          intro i z hi hz hz1
          by_cases hij : i < j
          · exact hno.out i z hij hz hz1
          · have : i = j := by omega
            subst this
            have := Option.some.inj (hz.symm.trans e1.out)
            subst this
            exact absurd hz1 Hq.out
        case measure => simp [intOf]; omega
      · have Hq := Lib.hid (of_decide_eq_true HQ.out)
        refine anyN_more [8, 9, 10, 11, 12, 13, 14, 15] 3 (by kernel_rfl) (by kernel_rfl) (by kernel_rfl) (by kernel_rfl) (fun _ _ _ _ _ h => h) HC1 ?_
        intro hne hu
        simp only [AllCells] at hu
        simp only [pick, List.take_succ_cons, List.take_zero, List.drop_succ_cons, List.drop_zero, List.cons_append, List.nil_append]
        repeat (go_big_quiet_step (fail))
        refine wpQuiet_nil ?_
        clear hne hu
        refine anyN_oneL 16 (by kernel_rfl) ?_
        simp only [List.take_succ_cons, List.take_zero, List.drop_succ_cons, List.drop_zero]
        go_wp2_with fail
        refine (in36_c G gn gc gl z1 z2 w1 own2 s (HG.out.belowTo B1.out) HL.out hg1).mono ?_
        rintro e w2 ⟨rfl, hb2⟩
        obtain ⟨q, hq⟩ : ∃ q, decide ((z1, z2) ∈ gl) = q := ⟨_, rfl⟩
        rw [hq]
        have HQ2 := Lib.hid hq
        clear hq
        have HC2 := AllCells.below HC1 hb2
        have B2 := Lib.hid (B1.out.trans (hb2.mono B1.out.size))
        clear hb2 B1 HC1
        go_wp2_with fail
        refine And.intro (fun _ => HC2) ?_
        cases q
        · skip
          refine anyN_more [17, 18] 0 (by kernel_rfl) (by kernel_rfl) (by kernel_rfl) (by kernel_rfl) (fun _ _ _ _ _ h => h) HC2 ?_
          intro hne hu
          simp only [AllCells] at hu
          simp only [pick, List.take_succ_cons, List.take_zero, List.drop_succ_cons, List.drop_zero, List.cons_append, List.nil_append]
          repeat (go_big_quiet_step (fail))
          refine wpQuiet_nil ?_
          clear hne hu
          refine ⟨by kernel_rfl, ?_⟩
          go_wp2_with fail
          go_ret
          refine ⟨ret_bool ?_, BV.out.trans (B2.out.mono BV.out.size)⟩
          exact (liveR_no (List.mem_of_getElem? e1.out) Hq.out (of_decide_eq_false HQ2.out)).symm
        · skip
          refine anyN_more [17, 18] 0 (by kernel_rfl) (by kernel_rfl) (by kernel_rfl) (by kernel_rfl) (fun _ _ _ _ _ h => h) HC2 ?_
          intro hne hu
          simp only [AllCells] at hu
          simp only [pick, List.take_succ_cons, List.take_zero, List.drop_succ_cons, List.drop_zero, List.cons_append, List.nil_append]
          repeat (go_big_quiet_step (fail))
          refine wpQuiet_nil ?_
          clear hne hu
          refine ⟨by kernel_rfl, ?_⟩
          go_wp2_with fail
          go_roundw
          case rel =>
            refine ⟨j + 1, by omega, by go_num, ?_, B2.out⟩
            intro i z hi hz hz1
            by_cases hij : i < j
            · exact hno.out i z hij hz hz1
            · have : i = j := by omega
              subst this
              have := Option.some.inj (hz.symm.trans e1.out)
              subst this
              exact of_decide_eq_true HQ2.out
          case measure => simp [intOf]; omega
    · have hkn : ¬ ((j : Int) < (k : Int)) := by omega
      have hkk : j = k := by omega
      have hno' : Hid (liveR F K gl (y1, y2) = (decide ((y1, y2) ∈ F) || !decide ((y1, y2) ∈ gl))) := liveR_rest (fun i c hi => hno.out i c (by rw [HK.out] at hi; omega))
      clear hno hkk
      go_wp2_with fail
      clear x0 x2 i0 i1 lx li
      refine (in36_c A n c F y1 y2 wr own 0 (HS.out.i.belowTo hbel.out) HN.out hn1).mono ?_
      rintro e w1 ⟨rfl, hb1⟩
      obtain ⟨q, hq⟩ : ∃ q, decide ((y1, y2) ∈ F) = q := ⟨_, rfl⟩
      rw [hq] at hno' ⊢
      have B1 := Lib.hid (hbel.out.trans (hb1.mono hbel.out.size))
      clear hb1 hbel hq
      have bi := bI.out.kept (B1.out.block _ bI.out.lt)
      have i0 := bi.cell 0
      have i1 := bi.cell 1
      have li := bi.lt
      simp only [List.getElem?_toArray, List.getElem?_cons_zero, List.getElem?_cons_succ] at i0 i1
      clear bi
      cases q
      · go_wp2_with fail
        clear i0 i1 li
        refine (in36_c G gn gc gl y1 y2 w1 own2 s (HG.out.belowTo B1.out) HL.out hg1).mono ?_
        rintro e w2 ⟨rfl, hb2⟩
        obtain ⟨q, hq⟩ : ∃ q, decide ((y1, y2) ∈ gl) = q := ⟨_, rfl⟩
        rw [hq] at hno' ⊢
        have B2 := Lib.hid (B1.out.trans (hb2.mono B1.out.size))
        clear hb2 B1 hq
        go_wp2_with fail
        go_ret
        exact ⟨ret_bool hno'.out.symm, BV.out.trans (B2.out.mono BV.out.size)⟩
      · go_wp2_with fail
        go_ret
        exact ⟨ret_bool hno'.out.symm, BV.out.trans (B1.out.mono BV.out.size)⟩
end Go.Proofs.Ytgmlhpkhecbkoaa
namespace Go.Proofs.Ytgmlhpkhecbkoaa
open Go.RowKit Go.Shelf

/-- What New holds: the two variables, and the row of its own. -/
structure RN (w : World) (R X : Nat) (L : List Id) (vF : Value) (W : World) : Prop where
  bel : Below w.heap.size w W
  bR : Blk W R 80 #[.slice none 0 0, .slice none 0 0, .slice none 0 0]
  bX : Blk W X 80 #[vF, .slice none 0 0, .slice none 0 0]
  row : W.ownsRow (w.heap.size + 2) 24 2 vF L.length (idCells L)
section
variable {w W W' : World} {R X : Nat} {L : List Id} {vF : Value}
theorem RN.next (h : RN w R X L vF W) (b : Below W.heap.size W W') : RN w R X L vF W' :=
  ⟨h.bel.trans (b.mono h.bel.size), h.bR.kept (b.block _ h.bR.lt), h.bX.kept (b.block _ h.bX.lt), ownsRow_kept h.row (fun g _ hg => b.block g hg)⟩
theorem RN.start : RN w w.heap.size (w.heap.size + 1) [] (.slice none 0 0) ((w.alloc (.cells #[.slice none 0 0, .slice none 0 0, .slice none 0 0] 80)).alloc (.cells #[.slice none 0 0, .slice none 0 0, .slice none 0 0] 80)) := by
  have h1 := (Below.refl _ w).alloc (Nat.le_refl _) (.cells #[.slice none 0 0, .slice none 0 0, .slice none 0 0] 80)
  have h2 := h1.alloc (by simp) (.cells #[.slice none 0 0, .slice none 0 0, .slice none 0 0] 80)
  refine ⟨h2, (Blk.new w 80 #[.slice none 0 0, .slice none 0 0, .slice none 0 0]).alloc _, ?_, World.ownsRow_nil _ _ _ _⟩
  have := Blk.new (w.alloc (.cells #[.slice none 0 0, .slice none 0 0, .slice none 0 0] 80)) 80 #[.slice none 0 0, .slice none 0 0, .slice none 0 0]
  simpa using this
theorem ownsRow_form {w : World} {base : Nat} {e : TypeId} {size : Nat} {v : Value} {n : Nat} {xs : List Value} (h : w.ownsRow base e size v n xs) : ∃ A c, v = .slice A n c ∧ (A = none → c = 0) := by
  rcases h.2 with ⟨hv, rfl, _⟩ | ⟨g, cap, cur, hv, _⟩
  · exact ⟨none, 0, hv, fun _ => rfl⟩
  · exact ⟨_, cap, hv, fun e => by cases e⟩
theorem ownsRow_ids {w : World} {base : Nat} {e : TypeId} {A : Option Addr} {c : Nat} {l : List Id} {own : Tags} (h : w.ownsRow base e 2 (.slice A l.length c) l.length (idCells l)) (ho : ∀ k, base ≤ k → own k = 0) : IdsR w own 0 A l :=
  (Row.toIdsR (own := own) (t := 0) ⟨ownsRow_weak h (Nat.zero_le _), fun g hg => ho g (ownsRow_base h g hg)⟩).2
theorem RN.put {g c : Nat} {W1 : World} {l' : List Id} (h : RN w w.heap.size (w.heap.size + 1) L vF W) (hg : W.grownBy W1 vF.ownBlock) (hr : W1.ownsRow (w.heap.size + 2) 24 2 (.slice (some ⟨g, 0, none⟩) l'.length c) l'.length (idCells l')) :
    Blk W1 (w.heap.size + 1) 80 #[vF, .slice none 0 0, .slice none 0 0] ∧ RN w w.heap.size (w.heap.size + 1) l' (.slice (some ⟨g, 0, none⟩) l'.length c) (W1.setCell ⟨w.heap.size + 1, 0, none⟩ (.slice (some ⟨g, 0, none⟩) l'.length c)) := by
  have hb : Below (w.heap.size + 2) W W1 := Below.grew hg (ownsRow_base h.row) (by have := h.bX.lt; omega)
  have hX := h.bX.kept (hb.block (w.heap.size + 1) (by omega))
  refine ⟨hX, (h.bel.trans (hb.mono (by omega))).setCell (by show w.heap.size ≤ w.heap.size + 1; omega) _, (h.bR.kept (hb.block w.heap.size (by omega))).far (by show w.heap.size ≠ w.heap.size + 1; omega) _, by simpa using hX.store 0 (.slice (some ⟨g, 0, none⟩) l'.length c), ownsRow_kept hr (fun k hk _ => ?_)⟩
  have := ownsRow_base hr k hk
  exact Below.heap_setCell _ _ _ _ (by show k ≠ w.heap.size + 1; omega)
end
/-- A shared axis is handed back. -/
def R36NewP (w : World) (own : Tags) (F : List Id) (e : Ending) (w' : World) : Prop :=
  ∃ A c, e = .returned (.agg #[.slice A F.length c, .slice none 0 0, .slice none 0 0]) ∧ Below w.heap.size w w' ∧ RefS w' own A none none 0 0 F [] []

set_option maxRecDepth 100000 in
set_option maxHeartbeats 4000000 in
theorem rnew45_c (A : Option Addr) (n c : Nat) (ids : List Id) (w : World) (own : Tags) (s : Nat) (hR : IdsR w own s A ids) (hf : Fresh own w) (hn : ids.length = n) (hm : n ≤ 1000) :
    Calls Try.prog 45 #[.slice A n c] w (R36NewP w own (newL ids)) := by
  have S0 := Lib.hid (RN.start (w := w))
  have Hn := Lib.hid hn
  have HR := Lib.hid hR
  have HF := Lib.hid hf
  clear hn hR hf
  go_enter Try.func45, Try.ntmps45
  go_wp2_with fail
  generalize (w.alloc (.cells #[.slice none 0 0, .slice none 0 0, .slice none 0 0] 80)).alloc (.cells #[.slice none 0 0, .slice none 0 0, .slice none 0 0] 80) = V at *
  go_loopw [4] (fun i wr => ∃ (k : Nat) (vF : Value), k ≤ n ∧ i = .int .i64 k ∧ Hid (RN w w.heap.size (w.heap.size + 1) (newAt ids k) vF wr)) (fun i _ => n - (intOf i).toNat)
  case atStart => exact ⟨0, _, Nat.zero_le _, rfl, S0.out⟩
  case round =>
    clear S0
    obtain ⟨k, vF, hk, rfl, S1⟩ := hrel
    obtain ⟨AF, cF, hvF, hz0⟩ := ownsRow_form S1.out.row
    subst hvF
    have HZ0 := Lib.hid hz0
    clear hz0
    have x0 := S1.out.bX.cell 0
    have x1 := S1.out.bX.cell 1
    have x2 := S1.out.bX.cell 2
    have lx := S1.out.bX.lt
    simp only [List.getElem?_toArray, List.getElem?_cons_zero, List.getElem?_cons_succ] at x0 x1 x2
    by_cases hlt : k < n
    · have hkl : k < ids.length := by rw [Hn.out]; exact hlt
      obtain ⟨bA, off, rfl, _, _, hc⟩ := (HR.out.keep S1.out.bel.size (Same.below S1.out.bel)) (fun e => by rw [e] at hkl; simp at hkl)
      obtain ⟨g1, g2⟩ := hc k hkl
      have Hsuc := Lib.hid (newAt_succ ids k hkl)
      have hLk : (newAt ids k).length ≤ k := by
        have := newL_len (ids.take k)
        have e : newL (ids.take k) = newAt ids k := rfl
        rw [e] at this
        simp at this
        omega
      clear hc
      generalize ids[k] = z at *
      obtain ⟨z1, z2⟩ := z
      dsimp only at g1 g2
      obtain ⟨L, hL⟩ : ∃ L, newAt ids k = L := ⟨_, rfl⟩
      rw [hL] at S1 Hsuc hLk x0
      clear hL
      have hk0 : (0 : Int) ≤ (k : Int) := by omega
      have hkn : (k : Int) < (n : Int) := by omega
      have hacc : ((L.length : Int) < 1000) := by omega
      have HC : AllCells wr.drew [(⟨bA, off + k * 2, none⟩, .int .i64 z1), (⟨bA, off + k * 2 + 1, none⟩, .int .i64 z2), (⟨w.heap.size + 1, 0, none⟩, .slice AF L.length cF), (⟨w.heap.size + 1, 1, none⟩, .slice none 0 0), (⟨w.heap.size + 1, 2, none⟩, .slice none 0 0)] := ⟨g1, g2, x0, x1, x2, trivial⟩
      clear g1 g2 x0 x1 x2
      go_wp2_with fail
      refine region_free _ [0, 1, 2, 3] 17 (by kernel_rfl) (by kernel_rfl) (by kernel_rfl) (by kernel_rfl) (by kernel_rfl) (fun _ _ _ _ _ h => h) HC ?_
      intro hne hu
      simp only [AllCells] at hu
      simp only [pick, List.take_succ_cons, List.take_zero, List.drop_succ_cons, List.drop_zero, List.cons_append, List.nil_append]
      repeat (go_big_quiet_step (fail))
      refine wpQuiet_nil ?_
      clear hne hu
      refine anyN_oneL 4 (by kernel_rfl) ?_
      simp only [List.take_succ_cons, List.take_zero, List.drop_succ_cons, List.drop_zero]
      go_wp2_with fail
      refine (zero72_c z1 z2 wr.drew).mono ?_
      rintro e w1 ⟨rfl, hb1⟩
      obtain ⟨q, hq⟩ : ∃ q, decide ((z1, z2) = (0, 0)) = q := ⟨_, rfl⟩
      rw [hq]
      have HQ := Lib.hid hq
      clear hq
      have HC1 := AllCells.below (show AllCells wr.drew _ from HC) hb1
      have S2 := Lib.hid (S1.out.next ((Below.refl _ wr).drew.trans (hb1.mono (Nat.le_refl _))))
      clear hb1 HC S1
      go_wp2_with fail
      refine And.intro (fun _ => HC1) ?_
      cases q
      · have Hq := Lib.hid (of_decide_eq_false HQ.out)
        refine anyN_more [5, 6, 7, 8, 9, 10, 11] 9 (by kernel_rfl) (by kernel_rfl) (by kernel_rfl) (by kernel_rfl) (fun _ _ _ _ _ h => h) HC1 ?_
        intro hne hu
        simp only [AllCells] at hu
        simp only [pick, List.take_succ_cons, List.take_zero, List.drop_succ_cons, List.drop_zero, List.cons_append, List.nil_append]
        repeat (go_big_quiet_step (fail))
        refine wpQuiet_nil ?_
        clear hne hu
        refine anyN_oneL 12 (by kernel_rfl) ?_
        simp only [List.take_succ_cons, List.take_zero, List.drop_succ_cons, List.drop_zero]
        go_wp2_with fail
        have rs : RefS w1 (fun _ => 0) AF none none 0 0 L [] [] := ⟨ownsRow_ids S2.out.row (fun _ _ => rfl), fun h => absurd rfl h, fun h => absurd rfl h, fun _ => rfl, fun _ => rfl⟩
        refine (has49_c AF none none L.length cF 0 0 0 0 L [] [] z1 z2 w1 (fun _ => 0) rs rfl rfl (by omega) (by omega)).mono ?_
        rintro e w2 ⟨rfl, hb2⟩
        obtain ⟨q, hq⟩ : ∃ q, has L [] (z1, z2) = q := ⟨_, rfl⟩
        rw [hq]
        have HQ2 := Lib.hid hq
        clear hq rs
        have HC2 := AllCells.below HC1 hb2
        have S3 := Lib.hid (S2.out.next hb2)
        clear hb2 S2 HC1
        go_wp2_with fail
        refine And.intro (fun _ => HC2) ?_
        cases q
        · have hnew : Hid (newAt ids (k + 1) = L ++ [(z1, z2)]) := by
            show _ = _
            rw [Hsuc.out]
            unfold newStep
            rw [if_neg (by omega), if_neg (fun h => h.elim Hq.out (fun hm => by
              have : has L [] (z1, z2) = true := has_iff.2 (.inl hm)
              rw [HQ2.out] at this; cases this))]
          refine anyN_more [13, 14, 15, 16, 17, 18, 19, 20] 0 (by kernel_rfl) (by kernel_rfl) (by kernel_rfl) (by kernel_rfl) (fun _ _ _ _ _ h => h) HC2 ?_
          intro hne hu
          simp only [AllCells] at hu
          simp only [pick, List.take_succ_cons, List.take_zero, List.drop_succ_cons, List.drop_zero, List.cons_append, List.nil_append]
          repeat (go_big_quiet_step (fail))
          refine wpQuiet_nil ?_
          clear hne hu
          refine ⟨by kernel_rfl, ?_⟩
          go_wp2_with fail
          have bl4 : Below w2.heap.size w2 (w2.alloc (.cells #[.int .i64 z1, .int .i64 z2] 24)).drew := ((Below.refl _ _).alloc (Nat.le_refl _) _).drew
          have HC3 := Lib.hid (AllCells.below HC2 bl4)
          have HC2' : AllCells w2.drew [(⟨bA, off + k * 2, none⟩, .int .i64 z1), (⟨bA, off + k * 2 + 1, none⟩, .int .i64 z2), (⟨w.heap.size + 1, 0, none⟩, .slice AF L.length cF), (⟨w.heap.size + 1, 1, none⟩, .slice none 0 0), (⟨w.heap.size + 1, 2, none⟩, .slice none 0 0)] := HC2
          have S4 := Lib.hid (S3.out.next bl4)
          obtain ⟨i0, hi, hz0, hz1, hz2⟩ := info_parts Try.info24
          clear bl4 HC2
          refine region_picked _ [0, 1, 2, 3, 4, 5] [0, 1, 2, 3, 4, 5, 6, 7] 4 (by kernel_rfl) (by kernel_rfl) (by kernel_rfl) (by kernel_rfl) (by kernel_rfl) (by kernel_rfl) (fun _ _ _ _ _ h => h) HC2' ?_
          intro hne hu
          simp only [AllCells] at hu
          simp only [pick, List.take_succ_cons, List.take_zero, List.drop_succ_cons, List.drop_zero, List.cons_append, List.nil_append]
          repeat (go_big_quiet_step (fail))
          refine wpQuiet_nil ?_
          clear hne hu
          refine anyN_oneL 6 (by kernel_rfl) ?_
          simp only [List.take_succ_cons, List.take_zero, List.drop_succ_cons, List.drop_zero]
          go_wp2_with fail
          refine And.intro (fun _ => HC3.out) ?_
          refine anyN_oneL 7 (by kernel_rfl) ?_
          simp only [List.take_succ_cons, List.take_zero, List.drop_succ_cons, List.drop_zero]
          refine wpList_append_own_at _ rfl _ _ _ rfl (w.heap.size + 2) 24 i0 _ 2 16 Try.underlying22 hi hz0 hz1 hz2 rfl (by omega) _ _ _ rfl S4.out.row ⟨w2.heap.size, 0, none⟩ 1 1 [.int .i64 z1, .int .i64 z2] rfl rfl (World.news_of_block (cs := #[.int .i64 z1, .int .i64 z2]) (t := 24) (fr := (0, 0)) (heap_alloc_new w2 _)) (by simp [Value.oneCell']) (by simp only [maxLen]; omega) (by omega) (by have := S4.out.bX.lt; omega) ?_
          intro v' w5 hown5 hgrow5 _ hat5
          obtain ⟨gN, cN, rfl⟩ := ownsRow_slice hown5 (by omega)
          have hr5 : w5.ownsRow (w.heap.size + 2) 24 2 (.slice (some ⟨gN, 0, none⟩) (L ++ [(z1, z2)]).length cN) (L ++ [(z1, z2)]).length (idCells (L ++ [(z1, z2)])) := by
            rw [List.length_append, List.length_singleton]
            simpa [idCells_append, idCells] using hown5
          obtain ⟨b5, s5⟩ := S4.out.put hgrow5 hr5
          have bA5 : AllCells w5 [(⟨bA, off + k * 2, none⟩, .int .i64 z1), (⟨bA, off + k * 2 + 1, none⟩, .int .i64 z2), (⟨w.heap.size + 1, 0, none⟩, .slice AF L.length cF), (⟨w.heap.size + 1, 1, none⟩, .slice none 0 0), (⟨w.heap.size + 1, 2, none⟩, .slice none 0 0)] := by
            obtain ⟨b, o, e, _, hlt', hc'⟩ := HR.out (fun e => by rw [e] at hkl; simp at hkl)
            cases e
            have hb5 : Below (w.heap.size + 2) _ w5 := Below.grew hgrow5 (ownsRow_base S4.out.row) (by have := S4.out.bX.lt; omega)
            have hA := HC3.out
            refine ⟨?_, ?_, b5.cell 0, b5.cell 1, b5.cell 2, trivial⟩
            · exact (World.cell?_of_block (hb5.block bA (by omega))).trans hA.1
            · exact (World.cell?_of_block (hb5.block bA (by omega))).trans hA.2.1
          have f3 := b5.frozen 0
          have g3 := b5.cell 0
          simp only [List.getElem?_toArray, List.getElem?_cons_zero, List.getElem?_cons_succ] at g3
          have S5 := Lib.hid s5
          rw [List.length_append, List.length_singleton] at S5
          have lx5 := b5.lt
          clear hown5 hgrow5 hat5 hr5 b5 s5 S4 S3
          simp only [Exit.then]
          refine And.intro (fun _ => bA5) ?_
          refine anyN_restL 8 (by kernel_rfl) (by decide) (by kernel_rfl) ?_
          simp only [List.drop_succ_cons, List.drop_zero, Act.put, List.setIfInBounds_toArray, List.set_cons_succ, List.set_cons_zero]
          clear bA5 HC3 HC2'
          go_wp2_with fail
          go_roundw
          case rel => exact ⟨k + 1, _, by omega, by go_num, by show RN _ _ _ _ _ _; rw [hnew.out]; exact S5.out⟩
          case measure => simp [intOf]; omega
        · have hnew : Hid (newAt ids (k + 1) = L) := by
            show _ = _
            rw [Hsuc.out]
            unfold newStep
            rw [if_neg (by omega), if_pos (.inr (by
              rcases has_iff.1 HQ2.out with h | h
              · exact h
              · simp at h))]
          refine anyN_more [13, 14, 15, 16, 17, 18, 19, 20] 0 (by kernel_rfl) (by kernel_rfl) (by kernel_rfl) (by kernel_rfl) (fun _ _ _ _ _ h => h) HC2 ?_
          intro hne hu
          simp only [AllCells] at hu
          simp only [pick, List.take_succ_cons, List.take_zero, List.drop_succ_cons, List.drop_zero, List.cons_append, List.nil_append]
          repeat (go_big_quiet_step (fail))
          refine wpQuiet_nil ?_
          clear hne hu
          refine ⟨by kernel_rfl, ?_⟩
          go_wp2_with fail
          go_roundw
          case rel => exact ⟨k + 1, _, by omega, by go_num, by show RN _ _ _ _ _ _; rw [hnew.out]; exact S3.out⟩
          case measure => simp [intOf]; omega
      · have hnew : Hid (newAt ids (k + 1) = L) := by
          show _ = _
          rw [Hsuc.out]
          unfold newStep
          rw [if_neg (by omega), if_pos (.inl (of_decide_eq_true HQ.out))]
        refine anyN_more [5, 6, 7, 8, 9, 10, 11] 9 (by kernel_rfl) (by kernel_rfl) (by kernel_rfl) (by kernel_rfl) (fun _ _ _ _ _ h => h) HC1 ?_
        intro hne hu
        simp only [AllCells] at hu
        simp only [pick, List.take_succ_cons, List.take_zero, List.drop_succ_cons, List.drop_zero, List.cons_append, List.nil_append]
        repeat (go_big_quiet_step (fail))
        refine wpQuiet_nil ?_
        clear hne hu
        refine anyN_oneL 12 (by kernel_rfl) ?_
        simp only [List.take_succ_cons, List.take_zero, List.drop_succ_cons, List.drop_zero]
        go_wp2_with fail
        refine And.intro (fun _ => HC1) ?_
        refine anyN_more [13, 14, 15, 16, 17, 18, 19, 20] 0 (by kernel_rfl) (by kernel_rfl) (by kernel_rfl) (by kernel_rfl) (fun _ _ _ _ _ h => h) HC1 ?_
        intro hne hu
        simp only [AllCells] at hu
        simp only [pick, List.take_succ_cons, List.take_zero, List.drop_succ_cons, List.drop_zero, List.cons_append, List.nil_append]
        repeat (go_big_quiet_step (fail))
        refine wpQuiet_nil ?_
        clear hne hu
        refine ⟨by kernel_rfl, ?_⟩
        go_wp2_with fail
        go_roundw
        case rel => exact ⟨k + 1, _, by omega, by go_num, by show RN _ _ _ _ _ _; rw [hnew.out]; exact S2.out⟩
        case measure => simp [intOf]; omega
    · have hkn : ¬ ((k : Int) < (n : Int)) := by omega
      have hkk : k = n := by omega
      subst hkk
      have hL : newAt ids k = newL ids := by unfold newAt newL; rw [← Hn.out, List.take_length]
      rw [hL] at S1 x0
      have f0 := S1.out.bR.frozen 0
      have f1 := S1.out.bR.frozen 1
      have f2 := S1.out.bR.frozen 2
      have r0 := S1.out.bR.cell 0
      have r1 := S1.out.bR.cell 1
      have r2 := S1.out.bR.cell 2
      have lr := S1.out.bR.lt
      simp only [List.getElem?_toArray, List.getElem?_cons_zero, List.getElem?_cons_succ] at r0 r1 r2
      clear hL
      go_wp2_with fail
      clear x0 x1 x2 lx f0 f1 f2 r0 r1 r2 lr
      have bR := S1.out.bR.set3 (.slice AF (newL ids).length cF) (.slice none 0 0) (.slice none 0 0)
      have r0 := bR.cell 0
      have r1 := bR.cell 1
      have r2 := bR.cell 2
      simp only [List.getElem?_toArray, List.getElem?_cons_zero, List.getElem?_cons_succ] at r0 r1 r2
      refine bodyPost_ret (v := .agg #[.slice AF (newL ids).length cF, .slice none 0 0, .slice none 0 0]) (by simp [results, Try.results45, go_sem, r0, r1, r2]) rfl ?_
      have bl := below_set3 S1.out.bel (Nat.le_refl _) (.slice AF (newL ids).length cF) (.slice none 0 0) (.slice none 0 0)
      refine ⟨AF, cF, rfl, bl, ⟨ownsRow_ids (ownsRow_kept S1.out.row (fun g hg _ => ?_)) (fun j hj => HF.out.new (by omega)), fun h => absurd rfl h, fun h => absurd rfl h, fun _ => rfl, fun _ => rfl⟩⟩
      have := ownsRow_base S1.out.row g hg
      have h2 : g ≠ w.heap.size := by omega
      rw [Below.heap_setCell _ _ _ _ h2, Below.heap_setCell _ _ _ _ h2, Below.heap_setCell _ _ _ _ h2]
end Go.Proofs.Ytgmlhpkhecbkoaa
namespace Go.Proofs.Ytgmlhpkhecbkoaa
open Go.RowKit Go.Shelf

/-- A list of ids of one's own is handed back. -/
def HangP (w : World) (l : List Id) (e : Ending) (w' : World) : Prop :=
  ∃ v, e = .returned v ∧ Below w.heap.size w w' ∧ w'.ownsRow w.heap.size 24 2 v l.length (idCells l)
/-- hangs tells l at z. -/
def HangC (P : List (Id × Id)) (z : Id) (l : List Id) : Prop :=
  l.length ≤ 1000 → ∀ (A B C : Option Addr) (n c d k f : Nat) (F : List Id) (K : List (Id × Id)) (w : World), RefS w (fun _ => 0) A B C d f F P K → P.length ≤ 1000 →
    Calls Try.prog 73 #[.agg #[.slice A n c, .slice B P.length d, .slice C k f], .agg #[.int .i64 z.1, .int .i64 z.2]] w (HangP w l)
/-- What hangs holds. -/
structure HS (w : World) (A B C : Option Addr) (n c m d k f : Nat) (F : List Id) (P K : List (Id × Id)) (z1 z2 : Int) (W : World) : Prop where
  bel : Below w.heap.size w W
  bX : Blk W w.heap.size 80 #[.slice A n c, .slice B m d, .slice C k f]
  bI : Blk W (w.heap.size + 1) 24 #[.int .i64 z1, .int .i64 z2]
  s : RefS W (fun _ => 0) A B C d f F P K
section
variable {w W W' : World} {A B C : Option Addr} {n c m d k f : Nat} {F : List Id} {P K : List (Id × Id)} {z1 z2 : Int}
theorem HS.next (h : HS w A B C n c m d k f F P K z1 z2 W) (b : Below W.heap.size W W') : HS w A B C n c m d k f F P K z1 z2 W' :=
  ⟨h.bel.trans (b.mono h.bel.size), h.bX.kept (b.block _ h.bX.lt), h.bI.kept (b.block _ h.bI.lt), h.s.next b⟩
theorem HS.start (h : RefS w (fun _ => 0) A B C d f F P K) : HS w A B C n c m d k f F P K z1 z2 ((w.alloc (.cells #[.slice A n c, .slice B m d, .slice C k f] 80)).alloc (.cells #[.int .i64 z1, .int .i64 z2] 24)) := by
  have h1 := (Below.refl _ w).alloc (Nat.le_refl _) (.cells #[.slice A n c, .slice B m d, .slice C k f] 80)
  have h2 := h1.alloc (by simp) (.cells #[.int .i64 z1, .int .i64 z2] 24)
  refine ⟨h2, (Blk.new w 80 #[.slice A n c, .slice B m d, .slice C k f]).alloc _, ?_, h.next h2⟩
  have := Blk.new (w.alloc (.cells #[.slice A n c, .slice B m d, .slice C k f] 80)) 24 #[.int .i64 z1, .int .i64 z2]
  simpa using this
end
theorem ownsRow_shape {w : World} {base : Nat} {e : TypeId} {size : Nat} {v : Value} {n : Nat} {xs : List Value} (h : w.ownsRow base e size v n xs) : ∃ A c, v = .slice A n c ∧ ((A = none ∧ n = 0 ∧ c = 0) ∨ ∃ g, A = some ⟨g, 0, none⟩ ∧ n ≤ c) := by
  rcases h.2 with ⟨hv, rfl⟩ | ⟨g, cap, cur, hv, _, _, h1, _⟩
  · exact ⟨none, 0, hv, .inl ⟨rfl, rfl, rfl⟩⟩
  · exact ⟨_, _, hv, .inr ⟨g, rfl, h1⟩⟩
theorem ids_tail {w : World} {own : Tags} {t : Nat} {A A' : Option Addr} {l : List Id} (h : IdsR w own t A l) (k : Nat) (hA : l.drop k ≠ [] → ∀ b off, A = some ⟨b, off, none⟩ → A' = some ⟨b, off + k * 2, none⟩) : IdsR w own t A' (l.drop k) := fun hl => by
  obtain ⟨b, off, e, h1, h2, h3⟩ := h (fun e => hl (by rw [e]; simp))
  refine ⟨b, off + k * 2, hA hl b off e, h1, h2, fun i hi => ?_⟩
  have hi2 : k + i < l.length := by simp at hi; omega
  have := h3 (k + i) hi2
  rw [show off + k * 2 + i * 2 = off + (k + i) * 2 by omega]
  simpa [List.getElem_drop] using this
theorem ids_head {w : World} {own : Tags} {t : Nat} {A : Option Addr} {l : List Id} (h : IdsR w own t A l) (k : Nat) : IdsR w own t A (l.take k) := fun hl => by
  obtain ⟨b, off, e, h1, h2, h3⟩ := h (fun e => hl (by rw [e]; simp))
  refine ⟨b, off, e, h1, h2, fun i hi => ?_⟩
  have hi2 : i < l.length := by simp at hi; omega
  simpa [List.getElem_take] using h3 i hi2
theorem hang_row {w : World} {b a : Nat} {v : Value} {L : List Id} {y1 y2 : Int} (h : w.ownsRow b 24 2 v (a + 1 + (L.length - a)) (idCells (L.take a) ++ [.int .i64 y1, .int .i64 y2] ++ idCells (L.drop a))) (hs : scan (y1, y2) L = a) (ha : a ≤ L.length) : w.ownsRow b 24 2 v (hangAdd L (y1, y2)).length (idCells (hangAdd L (y1, y2))) := by
  have e1 : (hangAdd L (y1, y2)).length = a + 1 + (L.length - a) := by rw [length_hangAdd]; omega
  have e2 : idCells (hangAdd L (y1, y2)) = idCells (L.take a) ++ [.int .i64 y1, .int .i64 y2] ++ idCells (L.drop a) := by
    unfold hangAdd putAt
    rw [hs, idCells_append, idCells_append]
    rfl
  rw [e1, e2]
  exact h
theorem hang_row2 {w : World} {b a : Nat} {v : Value} {L : List Id} {y1 y2 : Int} (h : w.ownsRow b 24 2 v (a + 1 + 0) (idCells (L.take a) ++ [.int .i64 y1, .int .i64 y2] ++ [])) (hs : scan (y1, y2) L = a) (ha : a ≤ L.length) (hle : L.length ≤ a) : w.ownsRow b 24 2 v (hangAdd L (y1, y2)).length (idCells (hangAdd L (y1, y2))) := by
  refine hang_row ?_ hs ha
  rw [List.drop_eq_nil_of_le hle, show L.length - a = 0 by omega]
  exact h
theorem hang_row0 {w : World} {b : Nat} {v : Value} {y1 y2 : Int} (h : w.ownsRow b 24 2 v (0 + 1 + 0) ([] ++ [.int .i64 y1, .int .i64 y2] ++ [])) : w.ownsRow b 24 2 v (hangAdd [] (y1, y2)).length (idCells (hangAdd [] (y1, y2))) := h
theorem news_none {w : World} {L : List Id} {a : Nat} {x : Option Addr} (h : L.length ≤ a) : ∀ ad, x = some ad → ∀ j u, (idCells (L.drop a))[j]? = some u → w.cell? (ad.add j) = some u := by
  intro ad _ j u hu
  rw [List.drop_eq_nil_of_le h] at hu
  simp [idCells] at hu
theorem kids_take (P : List (Id × Id)) (z : Id) (i : Nat) (p : Id × Id) (h : P[i]? = some p) : kids (P.take (i + 1)) z = if p.1 = z then hangAdd (kids (P.take i) z) p.2 else kids (P.take i) z := by
  obtain ⟨h1, h2⟩ := List.getElem?_eq_some_iff.1 h
  rw [List.take_succ_eq_append_getElem h1, h2, kids_snoc]

set_option maxRecDepth 100000 in
set_option maxHeartbeats 8000000 in
theorem hang_step (P : List (Id × Id)) (z : Id) (D : Id → List Id) (IH : ∀ c ∈ kids P z, HangC P c (D c)) : HangC P z (flat D (kids P z)) := by
  intro hlen A B C n c d k f F K w hs hP
  obtain ⟨z1, z2⟩ := z
  obtain ⟨m, hm⟩ : ∃ m, P.length = m := ⟨_, rfl⟩
  rw [hm] at hP ⊢
  have HM := Lib.hid hm
  have HI := Lib.hid IH
  have HLEN := Lib.hid hlen
  have S0 := Lib.hid (HS.start (n := n) (c := c) (m := m) (k := k) (z1 := z1) (z2 := z2) hs)
  clear hm IH hs hlen
  go_enter Try.func73, Try.ntmps73
  go_wp2_with fail
  generalize (w.alloc (.cells #[.slice A n c, .slice B m d, .slice C k f] 80)).alloc (.cells #[.int .i64 z1, .int .i64 z2] 24) = V at *
  go_loopw [5, 6, 7, 8] (fun vO i u7 u8 wr => ∃ (j : Nat), j ≤ m ∧ i = .int .i64 j ∧ Hid (HS w A B C n c m d k f F P K z1 z2 wr) ∧ Hid (wr.ownsRow w.heap.size 24 2 vO (kids (P.take j) (z1, z2)).length (idCells (kids (P.take j) (z1, z2))))) (fun _ i _ _ _ => m - (intOf i).toNat)
  case atStart => exact ⟨0, Nat.zero_le _, rfl, S0.out, by show World.ownsRow _ _ _ _ _ _ _; simpa [kids, idCells] using World.ownsRow_nil _ _ _ _⟩
  case round =>
    clear S0
    obtain ⟨j, hj, rfl, S1, R1⟩ := hrel
    obtain ⟨AO, cO, hvO, hshape⟩ := ownsRow_shape R1.out
    subst hvO
    have HSH := Lib.hid hshape
    clear hshape
    have x0 := S1.out.bX.cell 0
    have x1 := S1.out.bX.cell 1
    have x2 := S1.out.bX.cell 2
    have lx := S1.out.bX.lt
    have i0 := S1.out.bI.cell 0
    have i1 := S1.out.bI.cell 1
    have li := S1.out.bI.lt
    simp only [List.getElem?_toArray, List.getElem?_cons_zero, List.getElem?_cons_succ] at x0 x1 x2 i0 i1
    by_cases hlt : j < m
    · have hkl : j < P.length := by rw [HM.out]; exact hlt
      obtain ⟨b1, o1, rfl, _, _, hc1⟩ := S1.out.s.p.puts (fun e => by rw [e] at hkl; simp at hkl)
      obtain ⟨g1, g2, g3, g4⟩ := hc1 j hkl
      have e1 := Lib.hid (kids_take P (z1, z2) j _ (List.getElem?_eq_getElem hkl))
      have hLk := kids_le (P.take j) (z1, z2)
      have hLk2 : (kids (P.take j) (z1, z2)).length ≤ j := by simp at hLk; omega
      clear hc1 hLk
      obtain ⟨p, hp⟩ : ∃ p, P[j] = p := ⟨_, rfl⟩
      rw [hp] at g1 g2 g3 g4 e1
      obtain ⟨⟨t1, t2⟩, ⟨y1, y2⟩⟩ := p
      have EZ := Lib.hid hp
      clear hp
      dsimp only at g1 g2 g3 g4
      obtain ⟨L, hL⟩ : ∃ L, kids (P.take j) (z1, z2) = L := ⟨_, rfl⟩
      rw [hL] at R1 e1 hLk2 HSH ⊢
      clear hL
      have hk0 : (0 : Int) ≤ (j : Int) := by omega
      have hkn : (j : Int) < (m : Int) := by omega
      have HC : AllCells wr.drew [(⟨b1, o1 + j * 4, none⟩, .int .i64 t1), (⟨b1, o1 + j * 4 + 1, none⟩, .int .i64 t2), (⟨w.heap.size, 1, none⟩, .slice (some ⟨b1, o1, none⟩) m d), (⟨w.heap.size + 1, 0, none⟩, .int .i64 z1), (⟨w.heap.size + 1, 1, none⟩, .int .i64 z2)] := ⟨g1, g2, x1, i0, i1, trivial⟩
      clear g1 g2 x0 x2 i0 i1 lx li g3 g4
      go_wp2_with fail
      refine region_free _ [0, 1, 2, 3, 4, 5, 6] 2 (by kernel_rfl) (by kernel_rfl) (by kernel_rfl) (by kernel_rfl) (by kernel_rfl) (fun _ _ _ _ _ h => h) HC ?_
      intro hne hu
      simp only [AllCells] at hu
      simp only [pick, List.take_succ_cons, List.take_zero, List.drop_succ_cons, List.drop_zero, List.cons_append, List.nil_append]
      repeat (go_big_quiet_step (fail))
      refine wpQuiet_nil ?_
      clear hne hu
      refine anyN_oneL 7 (by kernel_rfl) ?_
      simp only [List.take_succ_cons, List.take_zero, List.drop_succ_cons, List.drop_zero]
      go_wp2_with fail
      refine (same62_c t1 t2 z1 z2 wr.drew).mono ?_
      rintro e w1 ⟨rfl, hb1⟩
      obtain ⟨q, hq⟩ : ∃ q, decide ((t1, t2) = (z1, z2)) = q := ⟨_, rfl⟩
      rw [hq]
      have HQ := Lib.hid hq
      clear hq
      have HC1 := AllCells.below (show AllCells wr.drew _ from HC) hb1
      have bl1 := (Below.refl _ wr).drew.trans (hb1.mono (Nat.le_refl _))
      have S2 := Lib.hid (S1.out.next bl1)
      have R2 := Lib.hid (ownsRow_kept R1.out (fun g _ hg => bl1.block g hg))
      clear hb1 HC S1 bl1 R1 x1
      go_wp2_with fail
      refine And.intro (fun _ => HC1) ?_
      cases q
      · have hnew : Hid (kids (P.take (j + 1)) (z1, z2) = L) := by
          show _ = _
          rw [e1.out, if_neg (of_decide_eq_false HQ.out)]
        refine anyN_more [8] 0 (by kernel_rfl) (by kernel_rfl) (by kernel_rfl) (by kernel_rfl) (fun _ _ _ _ _ h => h) HC1 ?_
        intro hne hu
        simp only [AllCells] at hu
        simp only [pick, List.take_succ_cons, List.take_zero, List.drop_succ_cons, List.drop_zero, List.cons_append, List.nil_append]
        repeat (go_big_quiet_step (fail))
        refine wpQuiet_nil ?_
        clear hne hu
        refine ⟨by kernel_rfl, ?_⟩
        go_wp2_with fail
        go_roundw
        case rel => exact ⟨j + 1, by omega, by go_num, S2.out, by show World.ownsRow _ _ _ _ _ _ _; rw [hnew.out]; exact R2.out⟩
        case measure => simp [intOf]; omega
      · have hnew : Hid (kids (P.take (j + 1)) (z1, z2) = hangAdd L (y1, y2)) := by
          show _ = _
          rw [e1.out, if_pos (of_decide_eq_true HQ.out)]
        refine anyN_more [8] 0 (by kernel_rfl) (by kernel_rfl) (by kernel_rfl) (by kernel_rfl) (fun _ _ _ _ _ h => h) HC1 ?_
        intro hne hu
        simp only [AllCells] at hu
        simp only [pick, List.take_succ_cons, List.take_zero, List.drop_succ_cons, List.drop_zero, List.cons_append, List.nil_append]
        repeat (go_big_quiet_step (fail))
        refine wpQuiet_nil ?_
        clear hne hu
        refine ⟨by kernel_rfl, ?_⟩
        clear HC1
        go_wp2_with fail
        go_loopw [7] (fun i ww => ∃ (a : Nat), a ≤ L.length ∧ i = .int .i64 a ∧ Hid (∀ q, q < a → ∃ x, L[q]? = some x ∧ bef (y1, y2) x = true) ∧ Hid (HS w A (some ⟨b1, o1, none⟩) C n c m d k f F P K z1 z2 ww) ∧ Hid (ww.ownsRow w.heap.size 24 2 (.slice AO L.length cO) L.length (idCells L))) (fun i _ => L.length - (intOf i).toNat)
        case atStart => exact ⟨0, Nat.zero_le _, rfl, (fun q hq => absurd hq (by omega)), S2.out, R2.out⟩
        case round =>
          clear S2 R2
          obtain ⟨a, ha, rfl, hbef, S3, R3⟩ := hrel
          have x1 := S3.out.bX.cell 1
          have lx := S3.out.bX.lt
          simp only [List.getElem?_toArray, List.getElem?_cons_zero, List.getElem?_cons_succ] at x1
          obtain ⟨b2, o2, hAA, _, lb, hc1⟩ := S3.out.s.p.puts (fun e => by rw [e] at hkl; simp at hkl)
          cases hAA
          obtain ⟨_, _, g3, g4⟩ := hc1 j hkl
          rw [EZ.out] at g3 g4
          dsimp only at g3 g4
          clear hc1
          by_cases hal : a < L.length
          · have ha0 : (0 : Int) ≤ (a : Int) := by omega
            have han : (a : Int) < (L.length : Int) := by omega
            obtain ⟨gO, oO, hAO, _, _, hc2⟩ := ownsRow_ids (own := fun _ => 0) R3.out (fun _ _ => rfl) (fun e => by rw [e] at hal; simp at hal)
            subst hAO
            obtain ⟨f1, f2⟩ := hc2 a hal
            have e2 := Lib.hid (List.getElem?_eq_getElem hal)
            clear hc2
            generalize L[a] = y at *
            obtain ⟨v1, v2⟩ := y
            dsimp only at f1 f2
            have HC : AllCells wr.drew [(⟨b1, o1 + j * 4 + 2, none⟩, .int .i64 y1), (⟨b1, o1 + j * 4 + 3, none⟩, .int .i64 y2), (⟨w.heap.size, 1, none⟩, .slice (some ⟨b1, o1, none⟩) m d), (⟨gO, oO + a * 2, none⟩, .int .i64 v1), (⟨gO, oO + a * 2 + 1, none⟩, .int .i64 v2)] := ⟨g3, g4, x1, f1, f2, trivial⟩
            clear g3 g4 x1 f1 f2 lx lb
            go_wp2_with fail
            refine region_free _ [0, 1, 2, 3, 4, 5, 6, 7, 8, 9, 10, 11, 12, 13, 14] 2 (by kernel_rfl) (by kernel_rfl) (by kernel_rfl) (by kernel_rfl) (by kernel_rfl) (fun _ _ _ _ _ h => h) HC ?_
            intro hne hu
            simp only [AllCells] at hu
            simp only [pick, List.take_succ_cons, List.take_zero, List.drop_succ_cons, List.drop_zero, List.cons_append, List.nil_append]
            repeat (go_big_quiet_step (fail))
            refine wpQuiet_nil ?_
            clear hne hu
            refine anyN_oneL 15 (by kernel_rfl) ?_
            simp only [List.take_succ_cons, List.take_zero, List.drop_succ_cons, List.drop_zero]
            go_wp2_with fail
            refine (before85_c y1 y2 v1 v2 wr.drew).mono ?_
            rintro e w3 ⟨rfl, hb3⟩
            obtain ⟨q, hq⟩ : ∃ q, bef (y1, y2) (v1, v2) = q := ⟨_, rfl⟩
            rw [hq]
            have HQ3 := Lib.hid hq
            clear hq
            have HC1 := AllCells.below (show AllCells wr.drew _ from HC) hb3
            have bl3 := (Below.refl _ wr).drew.trans (hb3.mono (Nat.le_refl _))
            have S4 := Lib.hid (S3.out.next bl3)
            have R4 := Lib.hid (ownsRow_kept R3.out (fun g _ hg => bl3.block g hg))
            clear hb3 HC S3 bl3 R3
            go_wp2_with fail
            refine And.intro (fun _ => HC1) ?_
            cases q
            · have hsc : Hid (scan (y1, y2) L = a) := scan_spec (y1, y2) L a hbef.out (.inr ⟨_, e2.out, HQ3.out⟩)
              refine anyN_more [16] 0 (by kernel_rfl) (by kernel_rfl) (by kernel_rfl) (by kernel_rfl) (fun _ _ _ _ _ h => h) HC1 ?_
              intro hne hu
              simp only [AllCells] at hu
              simp only [pick, List.take_succ_cons, List.take_zero, List.drop_succ_cons, List.drop_zero, List.cons_append, List.nil_append]
              repeat (go_big_quiet_step (fail))
              refine wpQuiet_nil ?_
              clear hne hu
              refine ⟨by kernel_rfl, ?_⟩
              clear HC1 han ha0 e2 hbef hal
              generalize w3 = W at *
              have HBW : Hid (w.heap.size ≤ W.heap.size) := S4.out.bel.size
              clear hkn hk0
              rcases HSH.out with ⟨hA, hn0, hc0⟩ | ⟨gO, hA, hle⟩
              · cases hA
              · cases hA
                have hcap : (a : Int) ≤ (cO : Int) := by omega
                have ha0 : (0 : Int) ≤ (a : Int) := by omega
                have hal : (a : Int) ≤ (L.length : Int) := by omega
                have I3 := Lib.hid (ownsRow_ids (own := fun _ => 0) R4.out (fun _ _ => rfl))
                have HLT : Hid ((idCells (L.take a)).length = a * 2) := by show _ = _; rw [length_idCells, List.length_take]; congr 1; omega
                have HLD : Hid ((idCells (L.drop a)).length = (L.length - a) * 2) := by show _ = _; rw [length_idCells, List.length_drop]
                have HNW : Hid (∀ ad, some (⟨gO, 0, none⟩ : Addr) = some ad → ∀ j u, (idCells (L.take a))[j]? = some u → W.cell? (ad.add j) = some u) := fun ad h => by
                  cases h
                  exact (ids_head I3.out a).cells
                have HND : Hid (∀ w', Below W.heap.size W w' → ∀ ad, some (⟨gO, a * 2, none⟩ : Addr) = some ad → ∀ j u, (idCells (L.drop a))[j]? = some u → w'.cell? (ad.add j) = some u) := fun w' hw' ad h => by
                  cases h
                  exact (ids_tail (A' := some ⟨gO, a * 2, none⟩) (I3.out.belowTo hw') a (fun _ b off e => by cases e; simp)).cells
                obtain ⟨i0, hi, hz0, hz1, hz2⟩ := info_parts Try.info24
                have x1 := S4.out.bX.cell 1
                have lx := S4.out.bX.lt
                simp only [List.getElem?_toArray, List.getElem?_cons_zero, List.getElem?_cons_succ] at x1
                obtain ⟨b2, o2, hAA, _, lb, hc1⟩ := S4.out.s.p.puts (fun e => by rw [e] at hkl; simp at hkl)
                cases hAA
                obtain ⟨_, _, g3, g4⟩ := hc1 j hkl
                rw [EZ.out] at g3 g4
                dsimp only at g3 g4
                clear hc1
                by_cases hca : a = cO
                · subst hca
                  go_wp2_with (at_builtin; first | (refine wpList_append_src W rfl _ _ _ rfl W.heap.size 24 i0 _ 2 16 Try.underlying22 hi hz0 hz1 hz2 rfl (by omega) _ 0 [] rfl (World.ownsRow_nil W W.heap.size 24 2) (some ⟨gO, 0, none⟩) a _ (idCells (L.take a)) rfl (fun h => by cases h) HLT.out HNW.out (idCells_one _) (by simp only [maxLen]; omega) (by omega) (Nat.le_refl _) ?_; intro v8 w8 hr8 hg8 hat8; have hb8 : Below W.heap.size W w8 := Below.grew hg8 (by intro k hk; cases hk) (Nat.le_refl _); have S8 := Lib.hid (S4.out.next hb8); have R8 := Lib.hid (show w8.ownsRow W.heap.size 24 2 v8 a (idCells (L.take a)) by simpa using hr8); clear x1 lx g3 g4 lb; have x1 := S8.out.bX.cell 1; have lx := S8.out.bX.lt; simp only [List.getElem?_toArray, List.getElem?_cons_zero, List.getElem?_cons_succ] at x1; obtain ⟨b2, o2, hAA, _, lb, hc1⟩ := S8.out.s.p.puts (fun e => by rw [e] at hkl; simp at hkl); cases hAA; obtain ⟨_, _, g3, g4⟩ := hc1 j hkl; rw [EZ.out] at g3 g4; dsimp only at g3 g4; clear hc1; have bl9 : Below w8.heap.size w8 (w8.alloc (.cells #[.int .i64 y1, .int .i64 y2] 24)) := (Below.refl _ _).alloc (Nat.le_refl _) _; have R9 := Lib.hid (ownsRow_kept R8.out (w' := w8.alloc (.cells #[.int .i64 y1, .int .i64 y2] 24)) (fun g _ hg => bl9.block g hg)); have B9 := Lib.hid (hb8.trans (bl9.mono hb8.size)); have HS9 : Hid (W.heap.size ≤ (w8.alloc (.cells #[.int .i64 y1, .int .i64 y2] 24)).heap.size) := B9.out.size; clear hr8 hg8 hat8 hb8 bl9 R8 S8) | (refine wpList_append_own_at _ rfl _ _ _ rfl W.heap.size 24 i0 _ 2 16 Try.underlying22 hi hz0 hz1 hz2 rfl (by omega) _ _ _ rfl R9.out ⟨w8.heap.size, 0, none⟩ 1 1 [.int .i64 y1, .int .i64 y2] rfl rfl (news_new w8 w8.heap.size rfl #[.int .i64 y1, .int .i64 y2] 24) (by simp [Value.oneCell']) (by simp only [maxLen]; omega) (by omega) HS9.out ?_; intro v10 w10 hr10 hg10 _ hat10; obtain ⟨g10, c10, rfl⟩ := ownsRow_slice hr10 (by omega); have B10 := Lib.hid (B9.out.trans (Below.grew hg10 (ownsRow_base R9.out) HS9.out)); have R10 := Lib.hid hr10; have S10 := Lib.hid (S4.out.next B10.out); have HS10 : Hid (W.heap.size ≤ w10.heap.size) := B10.out.size; clear hr10 hg10 hat10 R9 B9 HS9 x1 lx g3 g4 lb) | (refine wpList_append_src w10 rfl _ _ _ rfl W.heap.size 24 i0 _ 2 16 Try.underlying22 hi hz0 hz1 hz2 rfl (by omega) _ _ _ rfl R10.out (some ⟨gO, 0, none⟩) 0 0 [] rfl (fun h => by cases h) rfl (fun ad _ j u h => by simp at h) (by simp) (by simp only [maxLen]; omega) (by omega) HS10.out ?_; intro v12 w12 hr12 hg12 hat12; have B12 := Lib.hid (B10.out.trans (Below.grew hg12 (ownsRow_base R10.out) HS10.out)); have S12 := Lib.hid (S4.out.next B12.out); have R12 := Lib.hid (hang_row2 (ownsRow_weak hr12 HBW.out) hsc.out ha hle); clear hr12 hg12 hat12 R10 B10 HS10 S10))
                  have hk0 : (0 : Int) ≤ (j : Int) := by omega
                  go_roundw
                  case rel => exact ⟨j + 1, by omega, by go_num, S12.out, by show World.ownsRow _ _ _ _ _ _ _; rw [hnew.out]; exact R12.out⟩
                  case measure => simp [intOf]; omega
                · have hca2 : ¬ cO = a := fun e => hca e.symm
                  go_wp2_with (at_builtin; first | (refine wpList_append_src W rfl _ _ _ rfl W.heap.size 24 i0 _ 2 16 Try.underlying22 hi hz0 hz1 hz2 rfl (by omega) _ 0 [] rfl (World.ownsRow_nil W W.heap.size 24 2) (some ⟨gO, 0, none⟩) a _ (idCells (L.take a)) rfl (fun h => by cases h) HLT.out HNW.out (idCells_one _) (by simp only [maxLen]; omega) (by omega) (Nat.le_refl _) ?_; intro v8 w8 hr8 hg8 hat8; have hb8 : Below W.heap.size W w8 := Below.grew hg8 (by intro k hk; cases hk) (Nat.le_refl _); have S8 := Lib.hid (S4.out.next hb8); have R8 := Lib.hid (show w8.ownsRow W.heap.size 24 2 v8 a (idCells (L.take a)) by simpa using hr8); clear x1 lx g3 g4 lb; have x1 := S8.out.bX.cell 1; have lx := S8.out.bX.lt; simp only [List.getElem?_toArray, List.getElem?_cons_zero, List.getElem?_cons_succ] at x1; obtain ⟨b2, o2, hAA, _, lb, hc1⟩ := S8.out.s.p.puts (fun e => by rw [e] at hkl; simp at hkl); cases hAA; obtain ⟨_, _, g3, g4⟩ := hc1 j hkl; rw [EZ.out] at g3 g4; dsimp only at g3 g4; clear hc1; have bl9 : Below w8.heap.size w8 (w8.alloc (.cells #[.int .i64 y1, .int .i64 y2] 24)) := (Below.refl _ _).alloc (Nat.le_refl _) _; have R9 := Lib.hid (ownsRow_kept R8.out (w' := w8.alloc (.cells #[.int .i64 y1, .int .i64 y2] 24)) (fun g _ hg => bl9.block g hg)); have B9 := Lib.hid (hb8.trans (bl9.mono hb8.size)); have HS9 : Hid (W.heap.size ≤ (w8.alloc (.cells #[.int .i64 y1, .int .i64 y2] 24)).heap.size) := B9.out.size; clear hr8 hg8 hat8 hb8 bl9 R8 S8) | (refine wpList_append_own_at _ rfl _ _ _ rfl W.heap.size 24 i0 _ 2 16 Try.underlying22 hi hz0 hz1 hz2 rfl (by omega) _ _ _ rfl R9.out ⟨w8.heap.size, 0, none⟩ 1 1 [.int .i64 y1, .int .i64 y2] rfl rfl (news_new w8 w8.heap.size rfl #[.int .i64 y1, .int .i64 y2] 24) (by simp [Value.oneCell']) (by simp only [maxLen]; omega) (by omega) HS9.out ?_; intro v10 w10 hr10 hg10 _ hat10; obtain ⟨g10, c10, rfl⟩ := ownsRow_slice hr10 (by omega); have B10 := Lib.hid (B9.out.trans (Below.grew hg10 (ownsRow_base R9.out) HS9.out)); have R10 := Lib.hid hr10; have S10 := Lib.hid (S4.out.next B10.out); have HS10 : Hid (W.heap.size ≤ w10.heap.size) := B10.out.size; clear hr10 hg10 hat10 R9 B9 HS9 x1 lx g3 g4 lb) | (refine wpList_append_src w10 rfl _ _ _ rfl W.heap.size 24 i0 _ 2 16 Try.underlying22 hi hz0 hz1 hz2 rfl (by omega) _ _ _ rfl R10.out (some ⟨gO, a * 2, none⟩) (L.length - a) _ (idCells (L.drop a)) rfl (fun h => by cases h) HLD.out (HND.out w10 B10.out) (idCells_one _) (by simp only [maxLen]; omega) (by omega) HS10.out ?_; intro v12 w12 hr12 hg12 hat12; have B12 := Lib.hid (B10.out.trans (Below.grew hg12 (ownsRow_base R10.out) HS10.out)); have S12 := Lib.hid (S4.out.next B12.out); have R12 := Lib.hid (hang_row (ownsRow_weak hr12 HBW.out) hsc.out ha); clear hr12 hg12 hat12 R10 B10 HS10 S10))
                  have hk0 : (0 : Int) ≤ (j : Int) := by omega
                  go_roundw
                  case rel => exact ⟨j + 1, by omega, by go_num, S12.out, by show World.ownsRow _ _ _ _ _ _ _; rw [hnew.out]; exact R12.out⟩
                  case measure => simp [intOf]; omega
            · skip
              refine anyN_more [16] 0 (by kernel_rfl) (by kernel_rfl) (by kernel_rfl) (by kernel_rfl) (fun _ _ _ _ _ h => h) HC1 ?_
              intro hne hu
              simp only [AllCells] at hu
              simp only [pick, List.take_succ_cons, List.take_zero, List.drop_succ_cons, List.drop_zero, List.cons_append, List.nil_append]
              repeat (go_big_quiet_step (fail))
              refine wpQuiet_nil ?_
              clear hne hu
              refine ⟨by kernel_rfl, ?_⟩
              clear HC1
              go_wp2_with fail
              go_roundw
              case rel =>
                refine ⟨a + 1, by omega, by go_num, ?_, S4.out, R4.out⟩
                intro q hq
                by_cases hqa : q < a
                · exact hbef.out q hqa
                · have : q = a := by omega
                  subst this
                  exact ⟨_, e2.out, HQ3.out⟩
              case measure => simp [intOf]; omega
          · have han : ¬ ((a : Int) < (L.length : Int)) := by omega
            have haa : a = L.length := by omega
            have hsc : Hid (scan (y1, y2) L = a) := scan_spec (y1, y2) L a hbef.out (.inl haa)
            clear haa
            have HC : AllCells wr.drew [(⟨b1, o1 + j * 4 + 2, none⟩, .int .i64 y1), (⟨b1, o1 + j * 4 + 3, none⟩, .int .i64 y2), (⟨w.heap.size, 1, none⟩, .slice (some ⟨b1, o1, none⟩) m d)] := ⟨g3, g4, x1, trivial⟩
            clear g3 g4 x1 lx lb
            go_wp2_with fail
            refine region_free _ [0, 1, 2, 3, 4, 5, 6, 7, 8, 9, 10, 11, 12, 13, 14] 2 (by kernel_rfl) (by kernel_rfl) (by kernel_rfl) (by kernel_rfl) (by kernel_rfl) (fun _ _ _ _ _ h => h) HC ?_
            intro hne hu
            simp only [AllCells] at hu
            simp only [pick, List.take_succ_cons, List.take_zero, List.drop_succ_cons, List.drop_zero, List.cons_append, List.nil_append]
            repeat (go_big_quiet_step (fail))
            refine wpQuiet_nil ?_
            clear hne hu
            refine anyN_oneL 15 (by kernel_rfl) ?_
            simp only [List.take_succ_cons, List.take_zero, List.drop_succ_cons, List.drop_zero]
            go_wp2_with fail
            refine And.intro (fun _ => HC) ?_
            refine anyN_more [16] 0 (by kernel_rfl) (by kernel_rfl) (by kernel_rfl) (by kernel_rfl) (fun _ _ _ _ _ h => h) HC ?_
            intro hne hu
            simp only [AllCells] at hu
            simp only [pick, List.take_succ_cons, List.take_zero, List.drop_succ_cons, List.drop_zero, List.cons_append, List.nil_append]
            repeat (go_big_quiet_step (fail))
            refine wpQuiet_nil ?_
            clear hne hu
            refine ⟨by kernel_rfl, ?_⟩
            clear HC
            have bl3 : Below wr.heap.size wr wr.drew := (Below.refl _ wr).drew
            have S4 := Lib.hid (S3.out.next bl3)
            have R4 := Lib.hid (ownsRow_kept R3.out (fun g _ hg => bl3.block g hg))
            clear bl3 S3 R3 han hbef
            generalize wr.drew = W at *
            have HBW : Hid (w.heap.size ≤ W.heap.size) := S4.out.bel.size
            clear hkn hk0
            rcases HSH.out with ⟨hA, hn0, hc0⟩ | ⟨gO, hA, hle⟩
            · have hL0 : L = [] := List.eq_nil_of_length_eq_zero hn0
              subst hL0
              have ha00 : a = 0 := by simpa using ha
              subst ha00
              subst hA
              subst hc0
              obtain ⟨i0, hi, hz0, hz1, hz2⟩ := info_parts Try.info24
              clear hsc hn0
              have x1 := S4.out.bX.cell 1
              have lx := S4.out.bX.lt
              simp only [List.getElem?_toArray, List.getElem?_cons_zero, List.getElem?_cons_succ] at x1
              obtain ⟨b2, o2, hAA, _, lb, hc1⟩ := S4.out.s.p.puts (fun e => by rw [e] at hkl; simp at hkl)
              cases hAA
              obtain ⟨_, _, g3, g4⟩ := hc1 j hkl
              rw [EZ.out] at g3 g4
              dsimp only at g3 g4
              clear hc1
              go_wp2_with (at_builtin; first | (refine wpList_append_src W rfl _ _ _ rfl W.heap.size 24 i0 _ 2 16 Try.underlying22 hi hz0 hz1 hz2 rfl (by omega) _ 0 [] rfl (World.ownsRow_nil W W.heap.size 24 2) none 0 0 [] rfl (fun _ => ⟨rfl, rfl⟩) rfl (fun ad h => by cases h) (by simp) (by simp only [maxLen]; omega) (by omega) (Nat.le_refl _) ?_; intro v8 w8 hr8 hg8 hat8; have hb8 : Below W.heap.size W w8 := Below.grew hg8 (by intro k hk; cases hk) (Nat.le_refl _); have S8 := Lib.hid (S4.out.next hb8); have R8 := Lib.hid (show w8.ownsRow W.heap.size 24 2 v8 0 [] by simpa using hr8); clear x1 lx g3 g4 lb; have x1 := S8.out.bX.cell 1; have lx := S8.out.bX.lt; simp only [List.getElem?_toArray, List.getElem?_cons_zero, List.getElem?_cons_succ] at x1; obtain ⟨b2, o2, hAA, _, lb, hc1⟩ := S8.out.s.p.puts (fun e => by rw [e] at hkl; simp at hkl); cases hAA; obtain ⟨_, _, g3, g4⟩ := hc1 j hkl; rw [EZ.out] at g3 g4; dsimp only at g3 g4; clear hc1; have bl9 : Below w8.heap.size w8 (w8.alloc (.cells #[.int .i64 y1, .int .i64 y2] 24)) := (Below.refl _ _).alloc (Nat.le_refl _) _; have R9 := Lib.hid (ownsRow_kept R8.out (w' := w8.alloc (.cells #[.int .i64 y1, .int .i64 y2] 24)) (fun g _ hg => bl9.block g hg)); have B9 := Lib.hid (hb8.trans (bl9.mono hb8.size)); have HS9 : Hid (W.heap.size ≤ (w8.alloc (.cells #[.int .i64 y1, .int .i64 y2] 24)).heap.size) := B9.out.size; clear hr8 hg8 hat8 hb8 bl9 R8 S8) | (refine wpList_append_own_at _ rfl _ _ _ rfl W.heap.size 24 i0 _ 2 16 Try.underlying22 hi hz0 hz1 hz2 rfl (by omega) _ _ _ rfl R9.out ⟨w8.heap.size, 0, none⟩ 1 1 [.int .i64 y1, .int .i64 y2] rfl rfl (news_new w8 w8.heap.size rfl #[.int .i64 y1, .int .i64 y2] 24) (by simp [Value.oneCell']) (by simp only [maxLen]; omega) (by omega) HS9.out ?_; intro v10 w10 hr10 hg10 _ hat10; obtain ⟨g10, c10, rfl⟩ := ownsRow_slice hr10 (by omega); have B10 := Lib.hid (B9.out.trans (Below.grew hg10 (ownsRow_base R9.out) HS9.out)); have R10 := Lib.hid hr10; have S10 := Lib.hid (S4.out.next B10.out); have HS10 : Hid (W.heap.size ≤ w10.heap.size) := B10.out.size; clear hr10 hg10 hat10 R9 B9 HS9 x1 lx g3 g4 lb) | (refine wpList_append_src w10 rfl _ _ _ rfl W.heap.size 24 i0 _ 2 16 Try.underlying22 hi hz0 hz1 hz2 rfl (by omega) _ _ _ rfl R10.out none 0 0 [] rfl (fun _ => ⟨rfl, rfl⟩) rfl (fun ad h => by cases h) (by simp) (by simp only [maxLen]; omega) (by omega) HS10.out ?_; intro v12 w12 hr12 hg12 hat12; have B12 := Lib.hid (B10.out.trans (Below.grew hg12 (ownsRow_base R10.out) HS10.out)); have S12 := Lib.hid (S4.out.next B12.out); have R12 := Lib.hid (hang_row0 (ownsRow_weak hr12 HBW.out)); clear hr12 hg12 hat12 R10 B10 HS10 S10))
              have hk0 : (0 : Int) ≤ (j : Int) := by omega
              go_roundw
              case rel => exact ⟨j + 1, by omega, by go_num, S12.out, by show World.ownsRow _ _ _ _ _ _ _; rw [hnew.out]; exact R12.out⟩
              case measure => simp [intOf]; omega
            · cases hA
              have hcap : (a : Int) ≤ (cO : Int) := by omega
              have ha0 : (0 : Int) ≤ (a : Int) := by omega
              have hal : (a : Int) ≤ (L.length : Int) := by omega
              have I3 := Lib.hid (ownsRow_ids (own := fun _ => 0) R4.out (fun _ _ => rfl))
              have HLT : Hid ((idCells (L.take a)).length = a * 2) := by show _ = _; rw [length_idCells, List.length_take]; congr 1; omega
              have HLD : Hid ((idCells (L.drop a)).length = (L.length - a) * 2) := by show _ = _; rw [length_idCells, List.length_drop]
              have HNW : Hid (∀ ad, some (⟨gO, 0, none⟩ : Addr) = some ad → ∀ j u, (idCells (L.take a))[j]? = some u → W.cell? (ad.add j) = some u) := fun ad h => by
                cases h
                exact (ids_head I3.out a).cells
              have HND : Hid (∀ w', Below W.heap.size W w' → ∀ ad, some (⟨gO, a * 2, none⟩ : Addr) = some ad → ∀ j u, (idCells (L.drop a))[j]? = some u → w'.cell? (ad.add j) = some u) := fun w' hw' ad h => by
                cases h
                exact (ids_tail (A' := some ⟨gO, a * 2, none⟩) (I3.out.belowTo hw') a (fun _ b off e => by cases e; simp)).cells
              obtain ⟨i0, hi, hz0, hz1, hz2⟩ := info_parts Try.info24
              have x1 := S4.out.bX.cell 1
              have lx := S4.out.bX.lt
              simp only [List.getElem?_toArray, List.getElem?_cons_zero, List.getElem?_cons_succ] at x1
              obtain ⟨b2, o2, hAA, _, lb, hc1⟩ := S4.out.s.p.puts (fun e => by rw [e] at hkl; simp at hkl)
              cases hAA
              obtain ⟨_, _, g3, g4⟩ := hc1 j hkl
              rw [EZ.out] at g3 g4
              dsimp only at g3 g4
              clear hc1
              by_cases hca : a = cO
              · subst hca
                go_wp2_with (at_builtin; first | (refine wpList_append_src W rfl _ _ _ rfl W.heap.size 24 i0 _ 2 16 Try.underlying22 hi hz0 hz1 hz2 rfl (by omega) _ 0 [] rfl (World.ownsRow_nil W W.heap.size 24 2) (some ⟨gO, 0, none⟩) a _ (idCells (L.take a)) rfl (fun h => by cases h) HLT.out HNW.out (idCells_one _) (by simp only [maxLen]; omega) (by omega) (Nat.le_refl _) ?_; intro v8 w8 hr8 hg8 hat8; have hb8 : Below W.heap.size W w8 := Below.grew hg8 (by intro k hk; cases hk) (Nat.le_refl _); have S8 := Lib.hid (S4.out.next hb8); have R8 := Lib.hid (show w8.ownsRow W.heap.size 24 2 v8 a (idCells (L.take a)) by simpa using hr8); clear x1 lx g3 g4 lb; have x1 := S8.out.bX.cell 1; have lx := S8.out.bX.lt; simp only [List.getElem?_toArray, List.getElem?_cons_zero, List.getElem?_cons_succ] at x1; obtain ⟨b2, o2, hAA, _, lb, hc1⟩ := S8.out.s.p.puts (fun e => by rw [e] at hkl; simp at hkl); cases hAA; obtain ⟨_, _, g3, g4⟩ := hc1 j hkl; rw [EZ.out] at g3 g4; dsimp only at g3 g4; clear hc1; have bl9 : Below w8.heap.size w8 (w8.alloc (.cells #[.int .i64 y1, .int .i64 y2] 24)) := (Below.refl _ _).alloc (Nat.le_refl _) _; have R9 := Lib.hid (ownsRow_kept R8.out (w' := w8.alloc (.cells #[.int .i64 y1, .int .i64 y2] 24)) (fun g _ hg => bl9.block g hg)); have B9 := Lib.hid (hb8.trans (bl9.mono hb8.size)); have HS9 : Hid (W.heap.size ≤ (w8.alloc (.cells #[.int .i64 y1, .int .i64 y2] 24)).heap.size) := B9.out.size; clear hr8 hg8 hat8 hb8 bl9 R8 S8) | (refine wpList_append_own_at _ rfl _ _ _ rfl W.heap.size 24 i0 _ 2 16 Try.underlying22 hi hz0 hz1 hz2 rfl (by omega) _ _ _ rfl R9.out ⟨w8.heap.size, 0, none⟩ 1 1 [.int .i64 y1, .int .i64 y2] rfl rfl (news_new w8 w8.heap.size rfl #[.int .i64 y1, .int .i64 y2] 24) (by simp [Value.oneCell']) (by simp only [maxLen]; omega) (by omega) HS9.out ?_; intro v10 w10 hr10 hg10 _ hat10; obtain ⟨g10, c10, rfl⟩ := ownsRow_slice hr10 (by omega); have B10 := Lib.hid (B9.out.trans (Below.grew hg10 (ownsRow_base R9.out) HS9.out)); have R10 := Lib.hid hr10; have S10 := Lib.hid (S4.out.next B10.out); have HS10 : Hid (W.heap.size ≤ w10.heap.size) := B10.out.size; clear hr10 hg10 hat10 R9 B9 HS9 x1 lx g3 g4 lb) | (refine wpList_append_src w10 rfl _ _ _ rfl W.heap.size 24 i0 _ 2 16 Try.underlying22 hi hz0 hz1 hz2 rfl (by omega) _ _ _ rfl R10.out (some ⟨gO, 0, none⟩) 0 0 [] rfl (fun h => by cases h) rfl (fun ad _ j u h => by simp at h) (by simp) (by simp only [maxLen]; omega) (by omega) HS10.out ?_; intro v12 w12 hr12 hg12 hat12; have B12 := Lib.hid (B10.out.trans (Below.grew hg12 (ownsRow_base R10.out) HS10.out)); have S12 := Lib.hid (S4.out.next B12.out); have R12 := Lib.hid (hang_row2 (ownsRow_weak hr12 HBW.out) hsc.out ha hle); clear hr12 hg12 hat12 R10 B10 HS10 S10))
                have hk0 : (0 : Int) ≤ (j : Int) := by omega
                go_roundw
                case rel => exact ⟨j + 1, by omega, by go_num, S12.out, by show World.ownsRow _ _ _ _ _ _ _; rw [hnew.out]; exact R12.out⟩
                case measure => simp [intOf]; omega
              · have hca2 : ¬ cO = a := fun e => hca e.symm
                go_wp2_with (at_builtin; first | (refine wpList_append_src W rfl _ _ _ rfl W.heap.size 24 i0 _ 2 16 Try.underlying22 hi hz0 hz1 hz2 rfl (by omega) _ 0 [] rfl (World.ownsRow_nil W W.heap.size 24 2) (some ⟨gO, 0, none⟩) a _ (idCells (L.take a)) rfl (fun h => by cases h) HLT.out HNW.out (idCells_one _) (by simp only [maxLen]; omega) (by omega) (Nat.le_refl _) ?_; intro v8 w8 hr8 hg8 hat8; have hb8 : Below W.heap.size W w8 := Below.grew hg8 (by intro k hk; cases hk) (Nat.le_refl _); have S8 := Lib.hid (S4.out.next hb8); have R8 := Lib.hid (show w8.ownsRow W.heap.size 24 2 v8 a (idCells (L.take a)) by simpa using hr8); clear x1 lx g3 g4 lb; have x1 := S8.out.bX.cell 1; have lx := S8.out.bX.lt; simp only [List.getElem?_toArray, List.getElem?_cons_zero, List.getElem?_cons_succ] at x1; obtain ⟨b2, o2, hAA, _, lb, hc1⟩ := S8.out.s.p.puts (fun e => by rw [e] at hkl; simp at hkl); cases hAA; obtain ⟨_, _, g3, g4⟩ := hc1 j hkl; rw [EZ.out] at g3 g4; dsimp only at g3 g4; clear hc1; have bl9 : Below w8.heap.size w8 (w8.alloc (.cells #[.int .i64 y1, .int .i64 y2] 24)) := (Below.refl _ _).alloc (Nat.le_refl _) _; have R9 := Lib.hid (ownsRow_kept R8.out (w' := w8.alloc (.cells #[.int .i64 y1, .int .i64 y2] 24)) (fun g _ hg => bl9.block g hg)); have B9 := Lib.hid (hb8.trans (bl9.mono hb8.size)); have HS9 : Hid (W.heap.size ≤ (w8.alloc (.cells #[.int .i64 y1, .int .i64 y2] 24)).heap.size) := B9.out.size; clear hr8 hg8 hat8 hb8 bl9 R8 S8) | (refine wpList_append_own_at _ rfl _ _ _ rfl W.heap.size 24 i0 _ 2 16 Try.underlying22 hi hz0 hz1 hz2 rfl (by omega) _ _ _ rfl R9.out ⟨w8.heap.size, 0, none⟩ 1 1 [.int .i64 y1, .int .i64 y2] rfl rfl (news_new w8 w8.heap.size rfl #[.int .i64 y1, .int .i64 y2] 24) (by simp [Value.oneCell']) (by simp only [maxLen]; omega) (by omega) HS9.out ?_; intro v10 w10 hr10 hg10 _ hat10; obtain ⟨g10, c10, rfl⟩ := ownsRow_slice hr10 (by omega); have B10 := Lib.hid (B9.out.trans (Below.grew hg10 (ownsRow_base R9.out) HS9.out)); have R10 := Lib.hid hr10; have S10 := Lib.hid (S4.out.next B10.out); have HS10 : Hid (W.heap.size ≤ w10.heap.size) := B10.out.size; clear hr10 hg10 hat10 R9 B9 HS9 x1 lx g3 g4 lb) | (refine wpList_append_src w10 rfl _ _ _ rfl W.heap.size 24 i0 _ 2 16 Try.underlying22 hi hz0 hz1 hz2 rfl (by omega) _ _ _ rfl R10.out (some ⟨gO, a * 2, none⟩) (L.length - a) _ (idCells (L.drop a)) rfl (fun h => by cases h) HLD.out (HND.out w10 B10.out) (idCells_one _) (by simp only [maxLen]; omega) (by omega) HS10.out ?_; intro v12 w12 hr12 hg12 hat12; have B12 := Lib.hid (B10.out.trans (Below.grew hg12 (ownsRow_base R10.out) HS10.out)); have S12 := Lib.hid (S4.out.next B12.out); have R12 := Lib.hid (hang_row (ownsRow_weak hr12 HBW.out) hsc.out ha); clear hr12 hg12 hat12 R10 B10 HS10 S10))
                have hk0 : (0 : Int) ≤ (j : Int) := by omega
                go_roundw
                case rel => exact ⟨j + 1, by omega, by go_num, S12.out, by show World.ownsRow _ _ _ _ _ _ _; rw [hnew.out]; exact R12.out⟩
                case measure => simp [intOf]; omega
    · have hkn : ¬ ((j : Int) < (m : Int)) := by omega
      have hkk : j = m := by omega
      subst hkk
      have hKP : kids (P.take j) (z1, z2) = kids P (z1, z2) := by rw [← HM.out, List.take_length]
      obtain ⟨KD, hKD⟩ : ∃ KD, kids P (z1, z2) = KD := ⟨_, rfl⟩
      rw [hKP, hKD] at R1 HSH ⊢
      rw [hKD] at HI HLEN
      have hKl : KD.length ≤ j := by rw [← hKD, ← HM.out]; exact kids_le P (z1, z2)
      have HPK := Lib.hid hKD
      clear hKP hKD
      go_wp2_with fail
      clear x0 x1 x2 i0 i1 lx li hkn
      generalize wr = W1 at *
      go_loopw [9, 10] (fun vr i ww => ∃ (t : Nat), t ≤ KD.length ∧ i = .int .i64 t ∧ Hid (Below W1.heap.size W1 ww) ∧ Hid (ww.ownsRow W1.heap.size 24 2 vr (flat D (KD.take t)).length (idCells (flat D (KD.take t))))) (fun _ i _ => KD.length - (intOf i).toNat)
      case atStart => exact ⟨0, Nat.zero_le _, rfl, Below.refl _ _, by show World.ownsRow _ _ _ _ _ _ _; simpa [flat, idCells] using World.ownsRow_nil _ _ _ _⟩
      case round =>
        obtain ⟨t, ht, rfl, hbel, R2⟩ := hrel
        obtain ⟨AR, cR, hvR, _⟩ := ownsRow_shape R2.out
        subst hvR
        by_cases hlt : t < KD.length
        · obtain ⟨gO, hA⟩ : ∃ gO, AO = some ⟨gO, 0, none⟩ := by
            rcases HSH.out with ⟨_, hn0, _⟩ | ⟨gO, hA, _⟩
            · omega
            · exact ⟨gO, hA⟩
          subst hA
          obtain ⟨b2, o2, hAA, _, _, hc2⟩ := (ownsRow_ids (own := fun _ => 0) R1.out (fun _ _ => rfl)).belowTo hbel.out (fun e => by rw [e] at hlt; simp at hlt)
          cases hAA
          obtain ⟨f1, f2⟩ := hc2 t hlt
          have hcm := Lib.hid (HI.out KD[t] (List.getElem_mem hlt))
          have hft := Lib.hid (flat_take D KD t KD[t] (List.getElem?_eq_getElem hlt))
          have hfl := Lib.hid (flat_le D KD (t + 1))
          obtain ⟨y, hy⟩ : ∃ y, KD[t] = y := ⟨_, rfl⟩
          rw [hy] at hcm hft f1 f2
          have EY := Lib.hid hy
          clear hc2 hy
          obtain ⟨y1, y2⟩ := y
          dsimp only at f1 f2
          simp only [Nat.zero_add] at f1 f2
          obtain ⟨FL, hFL⟩ : ∃ FL, flat D (KD.take t) = FL := ⟨_, rfl⟩
          rw [hFL] at R2 hft ⊢
          clear hFL
          have hdl : FL.length + 1 + (D (y1, y2)).length ≤ 1000 := by
            have h1 := hfl.out
            rw [hft.out] at h1
            have h2 := HLEN.out
            simp at h1
            omega
          have ht0 : (0 : Int) ≤ (t : Int) := by omega
          have htn : (t : Int) < (KD.length : Int) := by omega
          obtain ⟨i0, hi, hz0, hz1, hz2⟩ := info_parts Try.info24
          have bl9 : Below wr.heap.size wr (wr.alloc (.cells #[.int .i64 y1, .int .i64 y2] 24)) := (Below.refl _ _).alloc (Nat.le_refl _) _
          have R9 := Lib.hid (ownsRow_kept R2.out (w' := wr.alloc (.cells #[.int .i64 y1, .int .i64 y2] 24)) (fun g _ hg => bl9.block g hg))
          have B9 := Lib.hid (hbel.out.trans (bl9.mono hbel.out.size))
          have HS9 : Hid (W1.heap.size ≤ (wr.alloc (.cells #[.int .i64 y1, .int .i64 y2] 24)).heap.size) := B9.out.size
          clear bl9 R2 hbel hfl
          go_wp2_with (at_builtin; refine wpList_append_own_at _ rfl _ _ _ rfl W1.heap.size 24 i0 _ 2 16 Try.underlying22 hi hz0 hz1 hz2 rfl (by omega) _ _ _ rfl R9.out ⟨wr.heap.size, 0, none⟩ 1 1 [.int .i64 y1, .int .i64 y2] rfl rfl (news_new wr wr.heap.size rfl #[.int .i64 y1, .int .i64 y2] 24) (by simp [Value.oneCell']) (by simp only [maxLen]; omega) (by omega) HS9.out ?_; intro v10 w10 hr10 hg10 _ hat10; obtain ⟨g10, c10, rfl⟩ := ownsRow_slice hr10 (by omega); have B10 := Lib.hid (B9.out.trans (Below.grew hg10 (ownsRow_base R9.out) HS9.out)); have R10 := Lib.hid hr10; clear hr10 hg10 hat10 R9 B9 HS9 f1 f2)
          have S10 := Lib.hid (S1.out.next B10.out)
          have bD : Below w10.heap.size w10 w10.drew := (Below.refl _ w10).drew
          have S11 := Lib.hid (S10.out.next bD)
          have x0 := S11.out.bX.cell 0
          have x1 := S11.out.bX.cell 1
          have x2 := S11.out.bX.cell 2
          simp only [List.getElem?_toArray, List.getElem?_cons_zero, List.getElem?_cons_succ] at x0 x1 x2
          obtain ⟨b2, o2, hAA, _, _, hc2⟩ := (ownsRow_ids (own := fun _ => 0) R1.out (fun _ _ => rfl)).belowTo (B10.out.trans (bD.mono B10.out.size)) (fun e => by rw [e] at hlt; simp at hlt)
          cases hAA
          obtain ⟨f1, f2⟩ := hc2 t hlt
          rw [EY.out] at f1 f2
          dsimp only at f1 f2
          clear hc2
          have HC : AllCells w10.drew [(⟨w.heap.size, 0, none⟩, .slice A n c), (⟨w.heap.size, 1, none⟩, .slice B j d), (⟨w.heap.size, 2, none⟩, .slice C k f), (⟨gO, t * 2, none⟩, .int .i64 y1), (⟨gO, t * 2 + 1, none⟩, .int .i64 y2)] := ⟨x0, x1, x2, by simpa using f1, by simpa using f2, trivial⟩
          have HCALL := Lib.hid (hcm.out (by omega) A B C n c d k f F K w10.drew S11.out.s (by rw [HM.out]; exact hP))
          rw [HM.out] at HCALL
          clear x0 x1 x2 f1 f2 hcm bD
          refine region_free _ [0, 1, 2, 3, 4, 5] 3 (by kernel_rfl) (by kernel_rfl) (by kernel_rfl) (by kernel_rfl) (by kernel_rfl) (fun _ _ _ _ _ h => h) HC ?_
          intro hne hu
          simp only [AllCells] at hu
          simp only [pick, List.take_succ_cons, List.take_zero, List.drop_succ_cons, List.drop_zero, List.cons_append, List.nil_append]
          repeat (go_big_quiet_step (fail))
          refine wpQuiet_nil ?_
          clear hne hu
          refine anyN_oneL 6 (by kernel_rfl) ?_
          simp only [List.take_succ_cons, List.take_zero, List.drop_succ_cons, List.drop_zero]
          go_wp2_with fail
          refine HCALL.out.mono ?_
          rintro e w12 ⟨v12, rfl, hb12, hr12⟩
          obtain ⟨A12, c12, hv12, hsh12⟩ := ownsRow_shape hr12
          subst hv12
          have HC1 := AllCells.below (show AllCells w10.drew _ from HC) hb12
          have hbD : Below w10.heap.size w10 w12 := (Below.refl _ w10).drew.trans (hb12.mono (Nat.le_refl _))
          have B12 := Lib.hid (B10.out.trans (hbD.mono B10.out.size))
          have R11 := Lib.hid (ownsRow_kept R10.out (fun g _ hg => hbD.block g hg))
          have HSZ : Hid (W1.heap.size ≤ w12.heap.size) := B12.out.size
          have HA12 : Hid (A12 = none → (D (y1, y2)).length = 0 ∧ c12 = 0) := fun e => by
            rcases hsh12 with ⟨_, h1, h2⟩ | ⟨g, h1, _⟩
            · exact ⟨h1, h2⟩
            · rw [e] at h1; cases h1
          have HN12 : Hid (∀ ad, A12 = some ad → ∀ j u, (idCells (D (y1, y2)))[j]? = some u → w12.cell? (ad.add j) = some u) := fun ad h => by
            subst h
            exact (ownsRow_ids (own := fun _ => 0) hr12 (fun _ _ => rfl)).cells
          have HL12 : Hid ((idCells (D (y1, y2))).length = (D (y1, y2)).length * 2) := length_idCells _
          clear hb12 hr12 hsh12 HCALL HC hbD R10
          go_wp2_with fail
          refine And.intro (fun _ => HC1) ?_
          refine anyN_oneL 7 (by kernel_rfl) ?_
          simp only [List.take_succ_cons, List.take_zero, List.drop_succ_cons, List.drop_zero]
          refine wpList_append_src w12 rfl _ _ _ rfl W1.heap.size 24 i0 _ 2 16 Try.underlying22 hi hz0 hz1 hz2 rfl (by omega) _ _ _ rfl R11.out A12 (D (y1, y2)).length c12 (idCells (D (y1, y2))) rfl HA12.out HL12.out HN12.out (idCells_one _) (by simp only [maxLen]; omega) (by omega) HSZ.out ?_
          intro v14 w14 hr14 hg14 hat14
          have hb14 := Below.grew hg14 (ownsRow_base R11.out) HSZ.out
          have B14 := Lib.hid (B12.out.trans hb14)
          have hx14 : AllCells w14 [(⟨w.heap.size, 0, none⟩, .slice A n c), (⟨w.heap.size, 1, none⟩, .slice B j d), (⟨w.heap.size, 2, none⟩, .slice C k f), (⟨gO, t * 2, none⟩, .int .i64 y1), (⟨gO, t * 2 + 1, none⟩, .int .i64 y2)] := by
            have s14 := S1.out.next B14.out
            obtain ⟨b2, o2, hAA, _, _, hc2⟩ := (ownsRow_ids (own := fun _ => 0) R1.out (fun _ _ => rfl)).belowTo B14.out (fun e => by rw [e] at hlt; simp at hlt)
            cases hAA
            obtain ⟨f1, f2⟩ := hc2 t hlt
            rw [EY.out] at f1 f2
            exact ⟨s14.bX.cell 0, s14.bX.cell 1, s14.bX.cell 2, by simpa using f1, by simpa using f2, trivial⟩
          have R14 : Hid (w14.ownsRow W1.heap.size 24 2 v14 (flat D (KD.take (t + 1))).length (idCells (flat D (KD.take (t + 1))))) := by
            show World.ownsRow _ _ _ _ _ _ _
            rw [hft.out]
            have e1 : (FL ++ (y1, y2) :: D (y1, y2)).length = FL.length + 1 + (D (y1, y2)).length := by simp; omega
            have e2 : idCells (FL ++ (y1, y2) :: D (y1, y2)) = idCells FL ++ [.int .i64 y1, .int .i64 y2] ++ idCells (D (y1, y2)) := by rw [idCells_append]; simp [idCells]
            rw [e1, e2]
            exact hr14
          clear hr14 hg14 hat14 hb14 R11 HN12 HA12 HC1
          simp only [Exit.then]
          refine And.intro (fun _ => hx14) ?_
          simp only [Act.put, List.setIfInBounds_toArray, List.set_cons_succ, List.set_cons_zero]
          refine anyN_more [8] 0 (by kernel_rfl) (by kernel_rfl) (by kernel_rfl) (by kernel_rfl) (fun _ _ _ _ _ h => h) hx14 ?_
          intro hne hu
          simp only [AllCells] at hu
          simp only [pick, List.take_succ_cons, List.take_zero, List.drop_succ_cons, List.drop_zero, List.cons_append, List.nil_append]
          repeat (go_big_quiet_step (fail))
          refine wpQuiet_nil ?_
          clear hne hu
          refine ⟨by kernel_rfl, ?_⟩
          clear hx14
          go_wp2_with fail
          go_roundw
          case rel => exact ⟨t + 1, by omega, by go_num, B14.out, R14.out⟩
          case measure => simp [intOf]; omega
        · have htn : ¬ ((t : Int) < (KD.length : Int)) := by omega
          have htt : t = KD.length := by omega
          have hfin : flat D (KD.take t) = flat D KD := by rw [htt, List.take_length]
          rw [hfin] at R2 ⊢
          clear hfin htt
          go_wp2_with fail
          go_ret
          refine ⟨_, rfl, S1.out.bel.trans (hbel.out.mono S1.out.bel.size), ?_⟩
          rw [HPK.out]
          exact ownsRow_weak R2.out S1.out.bel.size

theorem hang_all (P : List (Id × Id)) : ∀ (n : Nat) (z : Id), deep P n z → HangC P z (dfs P (n + 1) z)
  | 0, z, h => by
    refine hang_step P z (dfs P 0) (fun c hc => ?_)
    rw [show kids P z = [] from h] at hc
    cases hc
  | n + 1, z, h => hang_step P z (dfs P (n + 1)) (fun c hc => hang_all P n c (h c hc))
end Go.Proofs.Ytgmlhpkhecbkoaa
namespace Go.Proofs.Ytgmlhpkhecbkoaa
open Go.RowKit Go.Shelf

/-- What All holds. -/
structure HA (w : World) (A B C : Option Addr) (n c m d k f : Nat) (F : List Id) (P K : List (Id × Id)) (W : World) : Prop where
  bel : Below w.heap.size w W
  bX : Blk W w.heap.size 80 #[.slice A n c, .slice B m d, .slice C k f]
  s : RefS W (fun _ => 0) A B C d f F P K
theorem HA.next {w W W' : World} {A B C : Option Addr} {n c m d k f : Nat} {F : List Id} {P K : List (Id × Id)} (h : HA w A B C n c m d k f F P K W) (b : Below W.heap.size W W') : HA w A B C n c m d k f F P K W' :=
  ⟨h.bel.trans (b.mono h.bel.size), h.bX.kept (b.block _ h.bX.lt), h.s.next b⟩

set_option maxRecDepth 100000 in
set_option maxHeartbeats 8000000 in
theorem all50_c (A B C : Option Addr) (n c m d k f : Nat) (F : List Id) (P K : List (Id × Id)) (w : World) (hs : RefS w (fun _ => 0) A B C d f F P K) (hw : Wf F P) (hn : F.length = n) (hm : P.length = m) :
    Calls Try.prog 50 #[.agg #[.slice A n c, .slice B m d, .slice C k f]] w (HangP w (orderL F P)) := by
  have hol : (orderL F P).length ≤ 1000 := by rw [(order_facts hw).2.2]; exact hw.len
  have hPl : P.length ≤ 1000 := by have := hw.len; omega
  have hn1 : n ≤ 1000 := by have := hw.len; omega
  have HN := Lib.hid hn
  have HM := Lib.hid hm
  have HP := Lib.hid hPl
  have hang : ∀ z, HangC P z (dfs P 1001 z) := fun z => hang_all P 1000 z (deep_all hw z)
  have b1 := (Below.refl _ w).alloc (Nat.le_refl _) (.cells #[.slice A n c, .slice B m d, .slice C k f] 80)
  have S0 : Hid (HA w A B C n c m d k f F P K (w.alloc (.cells #[.slice A n c, .slice B m d, .slice C k f] 80))) := ⟨b1, Blk.new w 80 _, hs.next b1⟩
  unfold orderL at hol
  have hd0 : (dfs P 1001 (0, 0)).length + (flat (dfs P 1001) F).length ≤ 1000 := by simpa using hol
  have HO : Hid (orderL F P = dfs P 1001 (0, 0) ++ flat (dfs P 1001) F) := rfl
  obtain ⟨D, hD⟩ : ∃ D, dfs P 1001 = D := ⟨_, rfl⟩
  rw [hD] at hang hd0 HO
  have HG := Lib.hid hang
  have HC0 := Lib.hid (hang (0, 0) (by omega) A B C n c d k f F K _ S0.out.s hPl)
  rw [hm] at HC0
  clear hs hw hn hm hPl hang hD b1 hol
  go_enter Try.func50, Try.ntmps50
  go_wp2_with fail
  generalize w.alloc (.cells #[.slice A n c, .slice B m d, .slice C k f] 80) = V at *
  refine HC0.out.mono ?_
  rintro e W1 ⟨v1, rfl, hb1, hr1⟩
  have S1 := Lib.hid (S0.out.next hb1)
  have R1 := Lib.hid (ownsRow_weak hr1 S0.out.bel.size)
  have HWV : Hid (V.heap.size ≤ W1.heap.size) := hb1.size
  have HVX : Hid (w.heap.size < V.heap.size) := S0.out.bX.lt
  have R1' := Lib.hid hr1
  have B0 := Lib.hid hb1
  clear hb1 hr1 HC0
  go_wp2_with fail
  go_loopw [3, 4] (fun vr i ww => ∃ (t : Nat), t ≤ n ∧ i = .int .i64 t ∧ Hid (Below V.heap.size V ww) ∧ Hid (ww.ownsRow V.heap.size 24 2 vr (D (0, 0) ++ flat D (F.take t)).length (idCells (D (0, 0) ++ flat D (F.take t))))) (fun _ i _ => n - (intOf i).toNat)
  case atStart => exact ⟨0, Nat.zero_le _, rfl, B0.out, by show World.ownsRow _ _ _ _ _ _ _; simpa [flat] using R1'.out⟩
  case round =>
    obtain ⟨t, ht, rfl, hbel, R2⟩ := hrel
    clear R1 R1' B0 S1
    obtain ⟨AR, cR, hvR, _⟩ := ownsRow_shape R2.out
    subst hvR
    have S2 := Lib.hid (S0.out.next hbel.out)
    have x0 := S2.out.bX.cell 0
    have lx := S2.out.bX.lt
    simp only [List.getElem?_toArray, List.getElem?_cons_zero] at x0
    by_cases hlt : t < n
    · have hkl : t < F.length := by rw [HN.out]; exact hlt
      obtain ⟨gF, oF, hA, _, _, hc2⟩ := S2.out.s.i (fun e => by rw [e] at hkl; simp at hkl)
      subst hA
      obtain ⟨f1, f2⟩ := hc2 t hkl
      have hcm := Lib.hid (HG.out F[t])
      have hft := Lib.hid (flat_take D F t F[t] (List.getElem?_eq_getElem hkl))
      have hfl := Lib.hid (flat_le D F (t + 1))
      obtain ⟨y, hy⟩ : ∃ y, F[t] = y := ⟨_, rfl⟩
      rw [hy] at hcm hft f1 f2
      have EY := Lib.hid hy
      clear hc2 hy
      obtain ⟨y1, y2⟩ := y
      dsimp only at f1 f2
      have hdl : (D (0, 0) ++ flat D (F.take t)).length + 1 + (D (y1, y2)).length ≤ 1000 := by
        have h1 := hfl.out
        rw [hft.out] at h1
        simp at h1 ⊢
        omega
      obtain ⟨FL, hFL⟩ : ∃ FL, D (0, 0) ++ flat D (F.take t) = FL := ⟨_, rfl⟩
      have hft2 : Hid (D (0, 0) ++ flat D (F.take (t + 1)) = FL ++ (y1, y2) :: D (y1, y2)) := by
        show _ = _
        rw [hft.out, ← List.append_assoc, hFL]
      rw [hFL] at R2 hdl ⊢
      clear hFL hft hfl
      have ht0 : (0 : Int) ≤ (t : Int) := by omega
      have htn : (t : Int) < (n : Int) := by omega
      obtain ⟨i0, hi, hz0, hz1, hz2⟩ := info_parts Try.info24
      have bl9 : Below wr.heap.size wr (wr.alloc (.cells #[.int .i64 y1, .int .i64 y2] 24)) := (Below.refl _ _).alloc (Nat.le_refl _) _
      have R9 := Lib.hid (ownsRow_kept R2.out (w' := wr.alloc (.cells #[.int .i64 y1, .int .i64 y2] 24)) (fun g _ hg => bl9.block g hg))
      have B9 := Lib.hid (hbel.out.trans (bl9.mono hbel.out.size))
      have HS9 : Hid (V.heap.size ≤ (wr.alloc (.cells #[.int .i64 y1, .int .i64 y2] 24)).heap.size) := B9.out.size
      clear bl9 R2 hbel S2
      go_wp2_with (at_builtin; refine wpList_append_own_at _ rfl _ _ _ rfl V.heap.size 24 i0 _ 2 16 Try.underlying22 hi hz0 hz1 hz2 rfl (by omega) _ _ _ rfl R9.out ⟨wr.heap.size, 0, none⟩ 1 1 [.int .i64 y1, .int .i64 y2] rfl rfl (news_new wr wr.heap.size rfl #[.int .i64 y1, .int .i64 y2] 24) (by simp [Value.oneCell']) (by simp only [maxLen]; omega) (by omega) HS9.out ?_; intro v10 w10 hr10 hg10 _ hat10; obtain ⟨g10, c10, rfl⟩ := ownsRow_slice hr10 (by omega); have B10 := Lib.hid (B9.out.trans (Below.grew hg10 (ownsRow_base R9.out) HS9.out)); have R10 := Lib.hid hr10; clear hr10 hg10 hat10 R9 B9 HS9 f1 f2 x0 lx)
      have bD : Below w10.heap.size w10 w10.drew := (Below.refl _ w10).drew
      have S11 := Lib.hid (S0.out.next (B10.out.trans (bD.mono B10.out.size)))
      have x0 := S11.out.bX.cell 0
      have x1 := S11.out.bX.cell 1
      have x2 := S11.out.bX.cell 2
      simp only [List.getElem?_toArray, List.getElem?_cons_zero, List.getElem?_cons_succ] at x0 x1 x2
      obtain ⟨b2, o2, hAA, _, _, hc2⟩ := S11.out.s.i (fun e => by rw [e] at hkl; simp at hkl)
      cases hAA
      obtain ⟨f1, f2⟩ := hc2 t hkl
      rw [EY.out] at f1 f2
      dsimp only at f1 f2
      clear hc2
      have HC : AllCells w10.drew [(⟨w.heap.size, 0, none⟩, .slice (some ⟨gF, oF, none⟩) n c), (⟨w.heap.size, 1, none⟩, .slice B m d), (⟨w.heap.size, 2, none⟩, .slice C k f), (⟨gF, oF + t * 2, none⟩, .int .i64 y1), (⟨gF, oF + t * 2 + 1, none⟩, .int .i64 y2)] := ⟨x0, x1, x2, f1, f2, trivial⟩
      have HCALL := Lib.hid (hcm.out (by omega) (some ⟨gF, oF, none⟩) B C n c d k f F K w10.drew S11.out.s HP.out)
      rw [HM.out] at HCALL
      clear x0 x1 x2 f1 f2 hcm bD
      refine region_free _ [0, 1, 2, 3, 4, 5, 6] 3 (by kernel_rfl) (by kernel_rfl) (by kernel_rfl) (by kernel_rfl) (by kernel_rfl) (fun _ _ _ _ _ h => h) HC ?_
      intro hne hu
      simp only [AllCells] at hu
      simp only [pick, List.take_succ_cons, List.take_zero, List.drop_succ_cons, List.drop_zero, List.cons_append, List.nil_append]
      repeat (go_big_quiet_step (fail))
      refine wpQuiet_nil ?_
      clear hne hu
      refine anyN_oneL 7 (by kernel_rfl) ?_
      simp only [List.take_succ_cons, List.take_zero, List.drop_succ_cons, List.drop_zero]
      go_wp2_with fail
      refine HCALL.out.mono ?_
      rintro e w12 ⟨v12, rfl, hb12, hr12⟩
      obtain ⟨A12, c12, hv12, hsh12⟩ := ownsRow_shape hr12
      subst hv12
      have HC1 := AllCells.below (show AllCells w10.drew _ from HC) hb12
      have hbD : Below w10.heap.size w10 w12 := (Below.refl _ w10).drew.trans (hb12.mono (Nat.le_refl _))
      have B12 := Lib.hid (B10.out.trans (hbD.mono B10.out.size))
      have R11 := Lib.hid (ownsRow_kept R10.out (fun g _ hg => hbD.block g hg))
      have HSZ : Hid (V.heap.size ≤ w12.heap.size) := B12.out.size
      have HA12 : Hid (A12 = none → (D (y1, y2)).length = 0 ∧ c12 = 0) := fun e => by
        rcases hsh12 with ⟨_, h1, h2⟩ | ⟨g, h1, _⟩
        · exact ⟨h1, h2⟩
        · rw [e] at h1; cases h1
      have HN12 : Hid (∀ ad, A12 = some ad → ∀ j u, (idCells (D (y1, y2)))[j]? = some u → w12.cell? (ad.add j) = some u) := fun ad h => by
        subst h
        exact (ownsRow_ids (own := fun _ => 0) hr12 (fun _ _ => rfl)).cells
      have HL12 : Hid ((idCells (D (y1, y2))).length = (D (y1, y2)).length * 2) := length_idCells _
      clear hb12 hr12 hsh12 HCALL HC hbD R10 S11
      go_wp2_with fail
      refine And.intro (fun _ => HC1) ?_
      refine anyN_oneL 8 (by kernel_rfl) ?_
      simp only [List.take_succ_cons, List.take_zero, List.drop_succ_cons, List.drop_zero]
      refine wpList_append_src w12 rfl _ _ _ rfl V.heap.size 24 i0 _ 2 16 Try.underlying22 hi hz0 hz1 hz2 rfl (by omega) _ _ _ rfl R11.out A12 (D (y1, y2)).length c12 (idCells (D (y1, y2))) rfl HA12.out HL12.out HN12.out (idCells_one _) (by simp only [maxLen]; omega) (by omega) HSZ.out ?_
      intro v14 w14 hr14 hg14 hat14
      have hb14 := Below.grew hg14 (ownsRow_base R11.out) HSZ.out
      have B14 := Lib.hid (B12.out.trans hb14)
      have hx14 : AllCells w14 [(⟨w.heap.size, 0, none⟩, .slice (some ⟨gF, oF, none⟩) n c), (⟨w.heap.size, 1, none⟩, .slice B m d), (⟨w.heap.size, 2, none⟩, .slice C k f), (⟨gF, oF + t * 2, none⟩, .int .i64 y1), (⟨gF, oF + t * 2 + 1, none⟩, .int .i64 y2)] := by
        have s14 := S0.out.next B14.out
        obtain ⟨b2, o2, hAA, _, _, hc2⟩ := s14.s.i (fun e => by rw [e] at hkl; simp at hkl)
        cases hAA
        obtain ⟨f1, f2⟩ := hc2 t hkl
        rw [EY.out] at f1 f2
        exact ⟨s14.bX.cell 0, s14.bX.cell 1, s14.bX.cell 2, f1, f2, trivial⟩
      have R14 : Hid (w14.ownsRow V.heap.size 24 2 v14 (D (0, 0) ++ flat D (F.take (t + 1))).length (idCells (D (0, 0) ++ flat D (F.take (t + 1))))) := by
        show World.ownsRow _ _ _ _ _ _ _
        rw [hft2.out]
        have e1 : (FL ++ (y1, y2) :: D (y1, y2)).length = FL.length + 1 + (D (y1, y2)).length := by simp; omega
        have e2 : idCells (FL ++ (y1, y2) :: D (y1, y2)) = idCells FL ++ [.int .i64 y1, .int .i64 y2] ++ idCells (D (y1, y2)) := by rw [idCells_append]; simp [idCells]
        rw [e1, e2]
        exact hr14
      clear hr14 hg14 hat14 hb14 R11 HN12 HA12 HC1
      simp only [Exit.then]
      refine And.intro (fun _ => hx14) ?_
      simp only [Act.put, List.setIfInBounds_toArray, List.set_cons_succ, List.set_cons_zero]
      refine anyN_more [9] 0 (by kernel_rfl) (by kernel_rfl) (by kernel_rfl) (by kernel_rfl) (fun _ _ _ _ _ h => h) hx14 ?_
      intro hne hu
      simp only [AllCells] at hu
      simp only [pick, List.take_succ_cons, List.take_zero, List.drop_succ_cons, List.drop_zero, List.cons_append, List.nil_append]
      repeat (go_big_quiet_step (fail))
      refine wpQuiet_nil ?_
      clear hne hu
      refine ⟨by kernel_rfl, ?_⟩
      clear hx14
      go_wp2_with fail
      go_roundw
      case rel => exact ⟨t + 1, by omega, by go_num, B14.out, R14.out⟩
      case measure => simp [intOf]; omega
    · have htn : ¬ ((t : Int) < (n : Int)) := by omega
      have htt : t = n := by omega
      have hfin : D (0, 0) ++ flat D (F.take t) = orderL F P := by rw [htt, HO.out, ← HN.out, List.take_length]
      rw [hfin] at R2 ⊢
      clear hfin htt
      go_wp2_with fail
      go_ret
      exact ⟨_, rfl, S0.out.bel.trans (hbel.out.mono S0.out.bel.size), ownsRow_weak R2.out (Nat.le_of_lt HVX.out)⟩
end Go.Proofs.Ytgmlhpkhecbkoaa
namespace Go.Proofs.Ytgmlhpkhecbkoaa
open Go.RowKit Go.Shelf

attribute [local go_sem] Oper.semAt_some

def NoP (Q : Exit → Act → World → Prop) : Exit → Act → World → Prop
  | .panic _, _, _ => False
  | e, a, w => Q e a w
theorem NoP.to {Q : Exit → Act → World → Prop} {e : Exit} {a : Act} {w : World} (h : NoP Q e a w) : Q e a w := by
  cases e <;> first | exact h | exact h.elim
theorem cell_far {W : World} {X : Nat} {e : TypeId} {cs : Array Value} (hb : Blk W X e cs) {b o : Nat} {v : Value} (hc : W.cell? ⟨b, o, none⟩ = some v) (hv : ∀ i : Nat, cs[i]? ≠ some v) : b ≠ X := fun h => by
  subst h
  rw [hb.cell o] at hc
  exact hv o hc
def set3 (W : World) (X : Nat) (a b c : Value) : World := ((W.setCell ⟨X, 0, none⟩ a).setCell ⟨X, 1, none⟩ b).setCell ⟨X, 2, none⟩ c
theorem set3_other (W : World) (X : Nat) (a b c : Value) (k : Nat) (h : k ≠ X) : (set3 W X a b c).heap[k]? = W.heap[k]? := by
  unfold set3
  rw [Below.heap_setCell _ _ _ _ h, Below.heap_setCell _ _ _ _ h, Below.heap_setCell _ _ _ _ h]
theorem set3_size (W : World) (X : Nat) (a b c : Value) : (set3 W X a b c).heap.size = W.heap.size := by simp [set3]
section
variable {W : World} {X : Nat} {A1 B1 C1 : Option Addr} {n1 c1 m1 d1 k1 f1 : Nat} {own : Tags} {t : Nat} {A : Option Addr} {a b c : Value}
theorem IdsR.far3 {l : List Id} (h : IdsR W own t A l) (hb : Blk W X 80 #[.slice A1 n1 c1, .slice B1 m1 d1, .slice C1 k1 f1]) : IdsR (set3 W X a b c) own t A l := fun hl => by
  obtain ⟨g, off, e, ho, hlt, hc⟩ := h hl
  have hpos : 0 < l.length := List.length_pos_iff.2 hl
  have hne : g ≠ X := cell_far hb (hc 0 hpos).1 (fun i => by match i with | 0 => simp | 1 => simp | 2 => simp | i + 3 => simp)
  refine ⟨g, off, e, ho, by rw [set3_size]; exact hlt, fun i hi => ?_⟩
  have hk := set3_other W X a b c g hne
  exact ⟨(World.cell?_of_block hk).trans (hc i hi).1, (World.cell?_of_block hk).trans (hc i hi).2⟩
theorem ManyR.far3 {α : Type} {ff : α → List Value} {s : Nat} {l : List α} (h : ManyR ff s W own t A l) (hf : ∀ z, ∃ v, (ff z)[0]? = some v ∧ ∀ A n c, v ≠ .slice A n c) (hb : Blk W X 80 #[.slice A1 n1 c1, .slice B1 m1 d1, .slice C1 k1 f1]) : ManyR ff s (set3 W X a b c) own t A l := fun hl => by
  obtain ⟨g, off, e, ho, hlt, hc⟩ := h hl
  have hpos : 0 < l.length := List.length_pos_iff.2 hl
  obtain ⟨v, hv, hvn⟩ := hf l[0]
  have hne : g ≠ X := cell_far hb (hc 0 hpos 0 v hv) (fun i => by
    match i with
    | 0 => simp; exact fun e => hvn _ _ _ e.symm
    | 1 => simp; exact fun e => hvn _ _ _ e.symm
    | 2 => simp; exact fun e => hvn _ _ _ e.symm
    | i + 3 => simp)
  refine ⟨g, off, e, ho, by rw [set3_size]; exact hlt, fun i hi j v hv => ?_⟩
  exact (World.cell?_of_block (set3_other W X a b c g hne)).trans (hc i hi j v hv)
end
/-- What SeqcPlays holds in its loop. -/
structure PS (w : World) (q X G R : Nat) (D Gp A B C : Option Addr) (gn gc c d f : Nat) (F : List Id) (Ps Ks P K : List (Id × Id)) (ps : List ActD) (gl : List Id) (own : Tags) (W : World) : Prop where
  clean : Clean w own W
  sh : ShAt W own 1 q F Ps Ks
  bx : Box W own X 80 #[.slice A F.length c, .slice B P.length d, .slice C K.length f]
  rs : RefS W own A B C d f F P K
  d : ManyR actCells 5 W own 0 D ps
  bg : Box W own G 22 #[.slice Gp gn gc]
  br : Box W own R 4 #[.bool false]
  ig : IdsR W own 0 Gp gl
  hX : w.heap.size ≤ X
section
variable {w : World} {q X G R : Nat} {D Gp A B C A' B' C' : Option Addr} {gn gc c d f c' d' f' : Nat} {F : List Id} {Ps Ks P K P' K' : List (Id × Id)} {ps : List ActD} {gl : List Id} {own own' : Tags} {W W' : World} {t : Nat}
theorem PS.next (h : PS w q X G R D Gp A B C gn gc c d f F Ps Ks P K ps gl own W) (b : Below W.heap.size W W') : PS w q X G R D Gp A B C gn gc c d f F Ps Ks P K ps gl own W' :=
  ⟨h.clean.next b, h.sh.next b, h.bx.next b, h.rs.next b, h.d.belowTo b, h.bg.next b, h.br.next b, h.ig.belowTo b, h.hX⟩
theorem PS.act (h : PS w q X G R D Gp A B C gn gc c d f F Ps Ks P K ps gl own W) (b : Tr own 1 W own' W') (s : ShAt W' own' 1 q F P' K') : PS w q X G R D Gp A B C gn gc c d f F P' K' P K ps gl own' W' :=
  ⟨h.clean.tr b (by decide), s, h.bx.tr b (by decide), h.rs.tr b (by decide), h.d.keep b.size (b.toSame (by decide)), h.bg.tr b (by decide), h.br.tr b (by decide), h.ig.keep b.size (b.toSame (by decide)), h.hX⟩
theorem PS.other (h : PS w q X G R D Gp A B C gn gc c d f F Ps Ks P K ps gl own W) (b : Tr own 2 W own' W') : PS w q X G R D Gp A B C gn gc c d f F Ps Ks P K ps gl own' W' :=
  ⟨h.clean.tr b (by decide), h.sh.other b (by decide), h.bx.tr b (by decide), h.rs.tr b (by decide), h.d.keep b.size (b.toSame (by decide)), h.bg.tr b (by decide), h.br.tr b (by decide), h.ig.keep b.size (b.toSame (by decide)), h.hX⟩
theorem PS.put (h : PS w q X G R D Gp A B C gn gc c d f F Ps Ks P K ps gl own W) (r : RefS W own A' B' C' d' f' F P' K') :
    PS w q X G R D Gp A' B' C' gn gc c' d' f' F Ps Ks P' K' ps gl own (set3 W X (.slice A' F.length c') (.slice B' P'.length d') (.slice C' K'.length f')) := by
  have hk := set3_other W X (.slice A' F.length c') (.slice B' P'.length d') (.slice C' K'.length f')
  have hs := set3_size W X (.slice A' F.length c') (.slice B' P'.length d') (.slice C' K'.length f')
  have same : ∀ t, t ≠ 0 → Same t own W own (set3 W X (.slice A' F.length c') (.slice B' P'.length d') (.slice C' K'.length f')) := fun t ht j _ ho => ⟨hk j (fun e => ht (by rw [← ho, e]; exact h.bx.zero)), ho⟩
  refine ⟨?_, h.sh.keep (same 1 (by decide)), ⟨h.bx.blk.set3 _ _ _, h.bx.zero⟩, ⟨r.i.far3 h.bx.blk, r.p.far3 (fun z => ⟨_, rfl, fun _ _ _ e => by cases e⟩) h.bx.blk, r.k.far3 (fun z => ⟨_, rfl, fun _ _ _ e => by cases e⟩) h.bx.blk, r.zp, r.zk⟩, h.d.far3 (fun z => ⟨_, rfl, fun _ _ _ e => by cases e⟩) h.bx.blk, ?_, ?_, h.ig.far3 h.bx.blk, h.hX⟩
  · exact ((h.clean.setCell (p := ⟨X, 0, none⟩) h.hX _).setCell (p := ⟨X, 1, none⟩) h.hX _).setCell (p := ⟨X, 2, none⟩) h.hX _
  · exact ⟨h.bg.blk.kept (hk G (h.bg.blk.ne_type h.bx.blk (by decide))), h.bg.zero⟩
  · exact ⟨h.br.blk.kept (hk R (h.br.blk.ne_type h.bx.blk (by decide))), h.br.zero⟩
end
theorem ManyR.plain {α : Type} {ff : α → List Value} {s : Nat} {w : World} {own : Tags} {t : Nat} {A : Option Addr} {l : List α} (h : ManyR ff s w own t A l) : ManyR ff s w (fun _ => 0) 0 A l := fun hl => by
  obtain ⟨b, off, hA, _, hb, hc⟩ := h hl
  exact ⟨b, off, hA, rfl, hb, hc⟩
theorem RefS.plain {w : World} {own : Tags} {A B C : Option Addr} {d f : Nat} {F : List Id} {P K : List (Id × Id)} (h : RefS w own A B C d f F P K) : RefS w (fun _ => 0) A B C d f F P K := ⟨h.i.plain, h.p.plain, h.k.plain, h.zp, h.zk⟩
theorem keeps_below {W W' : World} (h : Below W.heap.size W W') : KeepsOthers W W' := ⟨h.size, fun k _ hk _ => (h.block k (Array.getElem?_eq_some_iff.1 hk).1).trans hk⟩
/-- What the last loop keeps: the count; all that lay ahead of it. -/
structure NI (V : World) (zs pre : List (Id × Bool)) (W : World) : Prop where
  bn : Blk W V.heap.size 3 #[.int .i64 (pre.length : Int)]
  below : Below V.heap.size V W
  pre : pre <+: zs
def FoN (V : World) (_ : World) (k : Nat) : Prop := k ≠ V.heap.size
theorem foN_ok (V : World) : FoOK (FoN V) := fun _ _ _ _ h _ _ => h
theorem NI.own {V : World} {B : Nat} {zs : List (Id × Bool)} (hB : V.heap.size ≤ B) : OwnFrom B (NI V zs) := fun _ _ _ _ h hg hr =>
  ⟨h.bn.own hg (fun r e => (hr r e).2), below_own h.below (Nat.le_refl _) hB hg (fun r e => (hr r e).1), h.pre⟩
theorem NI.next {V W W' : World} {zs pre : List (Id × Bool)} (h : NI V zs pre W) (b : Below W.heap.size W W') : NI V zs pre W' :=
  ⟨h.bn.kept (b.block _ h.bn.lt), h.below.trans (b.mono h.below.size), h.pre⟩
theorem NI.step {V W : World} {zs pre : List (Id × Bool)} {x : Id × Bool} (h : NI V zs pre W) (hx : pre ++ [x] <+: zs) : NI V zs (pre ++ [x]) (W.setCell ⟨V.heap.size, 0, none⟩ (.int .i64 ((pre.length : Int) + 1))) := by
  refine ⟨?_, h.below.setCell (Nat.le_refl _) _, hx⟩
  have := h.bn.store 0 (.int .i64 ((pre.length : Int) + 1))
  simpa using this
theorem of_frame {c : Code} {Q : Exit → Act → World → Prop} {T : Array Value} {W : World} {n : Nat} {P : Program} (h : ∀ T', T' = T → c.wpIn Fence.wide n P Q { tmps := T', defers := [] } W) : c.wpIn Fence.wide n P Q { tmps := T, defers := [] } W := h T rfl
theorem insPuts_le (F : List Id) (P : List (Id × Id)) (b z : Id) : (insPuts F P b z).length ≤ P.length + 1 := by
  unfold insPuts; split <;> simp
theorem cutCuts_le (F : List Id) (P K : List (Id × Id)) (b z : Id) : (cutCuts F P K b z).length ≤ K.length + 1 := by
  unfold cutCuts; split <;> simp

set_option maxRecDepth 100000 in
set_option maxHeartbeats 16000000 in
theorem plays_few (A0 D0 Gp : Option Addr) (n0 c0 m d0 gn gc : Nat) (ids0 : List Id) (ps : List ActD) (gl : List Id) (w : World) (hR : IdsR w (fun _ => 0) 0 A0 ids0) (hn : ids0.length = n0) (hD : ManyR actCells 5 w (fun _ => 0) 0 D0 ps) (hm : ps.length = m) (hG : IdsR w (fun _ => 0) 0 Gp gl) (hg : gl.length = gn) (h1 : n0 ≤ 60) (h2 : m ≤ 60) (h3 : gn ≤ 60) :
    Calls Try.prog 13 #[.slice A0 n0 c0, .slice D0 m d0, .slice Gp gn gc] w fun e w' => e = .returned (.bool true) ∧ Below w.heap.size w w' := by
  have hn' := Lib.hid hn
  have hm' := Lib.hid hm
  have hg' := Lib.hid hg
  have bV : Below w.heap.size w ((w.alloc (.cells #[.slice Gp gn gc] 22)).alloc (.cells #[.bool false] 4)) := ((Below.refl _ w).alloc (Nat.le_refl _) _).alloc (by simp) _
  have HR := Lib.hid (hR.belowTo bV)
  have HD := Lib.hid (hD.belowTo bV)
  have HG := Lib.hid (hG.belowTo bV)
  have K0 := Lib.hid ((Clean.start w).next bV)
  have BG : Hid (Box ((w.alloc (.cells #[.slice Gp gn gc] 22)).alloc (.cells #[.bool false] 4)) (fun _ => 0) w.heap.size 22 #[.slice Gp gn gc]) := ⟨(Blk.new w 22 _).alloc _, rfl⟩
  have BR : Hid (Box ((w.alloc (.cells #[.slice Gp gn gc] 22)).alloc (.cells #[.bool false] 4)) (fun _ => 0) (w.heap.size + 1) 4 #[.bool false]) := ⟨by have := Blk.new (w.alloc (.cells #[.slice Gp gn gc] 22)) 4 #[.bool false]; simpa using this, rfl⟩
  clear hn hm hg hR hD hG bV
  have q1 : ¬ ((60 : Int) < (n0 : Int)) := by omega
  have q2 : ¬ ((60 : Int) < (m : Int)) := by omega
  have q3 : ¬ ((60 : Int) < (gn : Int)) := by omega
  refine (callsIn_wide (n := 3)).1 (callsIn_of_wp_marks Try.func13 rfl trivial ?_ rfl)
  simp only [Try.ntmps13, List.size_toArray, List.length_cons, List.length_nil, Nat.reduceAdd, Nat.reduceSub, Array.replicate_succ, Array.replicate_zero, List.push_toArray, List.append_toArray, List.nil_append, List.cons_append]
  refine wpIn_wide.2 ?_
  refine Code.wp_mono (Q := NoP (bodyPostM Fence.wide 3 Try.prog Try.f13 fun e w' => e = .returned (.bool true) ∧ Below w.heap.size w w')) (fun e a w h => h.to) ?_
  go_wp2_with fail
  generalize (w.alloc (.cells #[.slice Gp gn gc] 22)).alloc (.cells #[.bool false] 4) = V at *
  refine (awake24_c _).mono ?_
  rintro e w1 ⟨rfl, hB⟩
  have K1 := Lib.hid (K0.out.next hB)
  have HR1 := Lib.hid (HR.out.belowTo hB)
  have HD1 := Lib.hid (HD.out.belowTo hB)
  have HG1 := Lib.hid (HG.out.belowTo hB)
  have BG1 := Lib.hid (BG.out.next hB)
  have BR1 := Lib.hid (BR.out.next hB)
  clear hB HR HD HG BG BR K0
  have cg := BG1.out.blk.cell 0
  have lg := BG1.out.blk.lt
  simp only [List.getElem?_toArray, List.getElem?_cons_zero] at cg
  go_wp2_with fail
  clear cg lg
  refine (snew_c A0 n0 c0 ids0 w1 (fun _ => 0) 0 1 HR1.out hn'.out (by simp [maxLen]; omega) (by decide) K1.out.fresh (by decide)).mono ?_
  rintro e w2 ⟨own2, q, rfl, tr2, a2⟩
  have K2 := Lib.hid (K1.out.tr tr2 (by decide))
  have HR2 := Lib.hid (HR1.out.keep tr2.size (tr2.toSame (by decide)))
  have HD2 := Lib.hid (HD1.out.keep tr2.size (tr2.toSame (by decide)))
  have HG2 := Lib.hid (HG1.out.keep tr2.size (tr2.toSame (by decide)))
  have BG2 := Lib.hid (BG1.out.tr tr2 (by decide))
  have BR2 := Lib.hid (BR1.out.tr tr2 (by decide))
  have A2 := Lib.hid a2
  clear tr2 a2 HR1 HD1 HG1 BG1 BR1 K1
  go_wp2_with fail
  refine (rnew45_c A0 n0 c0 ids0 w2 own2 0 HR2.out K2.out.fresh hn'.out (by omega)).mono ?_
  rintro e w3 ⟨A3, c3, rfl, hB, rs3⟩
  have S3 : Hid (PS w q w3.heap.size w.heap.size (w.heap.size + 1) D0 Gp A3 none none gn gc c3 0 0 (newL ids0) [] [] [] [] ps gl own2 (w3.alloc (.cells #[.slice A3 (newL ids0).length c3, .slice none 0 0, .slice none 0 0] 80))) := by
    have b4 : Below w3.heap.size w3 (w3.alloc (.cells #[.slice A3 (newL ids0).length c3, .slice none 0 0, .slice none 0 0] 80)) := (Below.refl _ _).alloc (Nat.le_refl _) _
    have bb := Below.comp hB b4
    have k3 := K2.out.next hB
    exact ⟨K2.out.next bb, A2.out.next bb, Box.new k3.fresh 80 _, rs3.next b4, HD2.out.belowTo bb, BG2.out.next bb, BR2.out.next bb, HG2.out.belowTo bb, k3.below.size⟩
  have HNL : Hid ((newL ids0).length ≤ n0) := by have := newL_len ids0; rw [hn'.out] at this; exact this
  clear K2 A2 HD2 BG2 BR2 HG2 HR2 hB rs3
  go_wp2_with fail
  generalize w3.alloc (.cells #[.slice A3 (newL ids0).length c3, .slice none 0 0, .slice none 0 0] 80) = V3 at *
  generalize w3.heap.size = X at *
  obtain ⟨F, hFF⟩ : ∃ F, newL ids0 = F := ⟨_, rfl⟩
  rw [hFF] at S3 HNL
  have hFl : F.length ≤ 60 := by have := HNL.out; omega
  clear hFF HNL
  have hpl := hm'.out
  generalize hR1 : w.heap.size + 1 = R at *
  have HRle := Lib.hid (show w.heap.size ≤ R by omega)
  clear hR1
  go_loopw [9, 10, 11] (fun i u10 u11 wr => ∃ (j : Nat) (own : Tags) (P K : List (Id × Id)) (A B C : Option Addr) (c d f : Nat), j ≤ m ∧ i = .int .i64 j ∧ Hid (PS w q X w.heap.size R D0 Gp A B C gn gc c d f F P K P K ps gl own wr) ∧ Hid (P.length ≤ j ∧ K.length ≤ j)) (fun i _ _ _ => m - (intOf i).toNat)
  case atStart => exact ⟨0, own2, [], [], A3, none, none, c3, 0, 0, Nat.zero_le _, rfl, S3.out, ⟨Nat.le_refl _, Nat.le_refl _⟩⟩
  case round =>
    clear S3
    obtain ⟨j, own, P, K, A, B, C, c, d, f, hj, rfl, S1, HPK⟩ := hrel
    have hPj := HPK.out.1
    have hKj := HPK.out.2
    by_cases hlt : j < m
    · have hkl : j < ps.length := by rw [hpl]; exact hlt
      have hj0 : (0 : Int) ≤ (j : Int) := by omega
      have hjn : (j : Int) < (m : Int) := by omega
      have hPl : F.length + P.length < 1000 := by omega
      have hKl : K.length ≤ 1000 := by omega
      have hKl' : K.length < 1000 := by omega
      obtain ⟨bD, oD, rfl, _, _, hc0⟩ := S1.out.d.acts (fun e => by rw [e] at hkl; simp at hkl)
      obtain ⟨g0, _⟩ := hc0 j hkl
      clear hc0
      obtain ⟨⟨zc, ⟨x1a, x2a⟩, ⟨y1a, y2a⟩⟩, hz⟩ : ∃ z, ps[j] = z := ⟨_, rfl⟩
      rw [hz] at g0
      dsimp only at g0
      have EZ := Lib.hid hz
      clear hz
      cases zc
      · go_wp2_with fail
        clear g0
        have D0 := Lib.hid (S1.out.next ((Below.refl _ wr).drew))
        obtain ⟨b0, o0, hAA0, ho0, _, hc0⟩ := D0.out.d.acts (fun e => by rw [e] at hkl; simp at hkl)
        cases hAA0
        obtain ⟨g0, g1, g2, g3, g4⟩ := hc0 j hkl
        rw [EZ.out] at g0 g1 g2 g3 g4
        dsimp only at g0 g1 g2 g3 g4
        clear hc0
        have HC : AllCells wr.drew [(⟨bD, oD + j * 5 + 1, none⟩, .int .i64 x1a), (⟨bD, oD + j * 5 + 2, none⟩, .int .i64 x2a), (⟨bD, oD + j * 5 + 3, none⟩, .int .i64 y1a), (⟨bD, oD + j * 5 + 4, none⟩, .int .i64 y2a)] := ⟨g1, g2, g3, g4, trivial⟩
        have HIN := Lib.hid (sinsert_c wr.drew own 1 q F P K x1a x2a y1a y2a D0.out.sh D0.out.clean.fresh (by decide))
        clear g0 g1 g2 g3 g4 S1
        refine region_free _ [0, 1, 2, 3, 4, 5, 6, 7, 8, 9, 10] 2 (by kernel_rfl) (by kernel_rfl) (by kernel_rfl) (by kernel_rfl) (by kernel_rfl) (fun _ _ _ _ _ h => h) HC ?_
        intro hne hu
        simp only [AllCells] at hu
        simp only [pick, List.take_succ_cons, List.take_zero, List.drop_succ_cons, List.drop_zero, List.cons_append, List.nil_append]
        repeat (go_big_quiet_step (fail))
        refine wpQuiet_nil ?_
        clear hne hu
        refine anyN_oneL 11 (by kernel_rfl) ?_
        simp only [List.take_succ_cons, List.take_zero, List.drop_succ_cons, List.drop_zero]
        go_wp2_with fail
        refine HIN.out.mono ?_
        rintro e w1 ⟨rfl, own1, tr1, sh1⟩
        have S2 := Lib.hid (D0.out.act tr1 sh1)
        clear tr1 sh1 HIN D0 HC
        obtain ⟨b1, o1, hAA1, ho1, _, hc1⟩ := S2.out.d.acts (fun e => by rw [e] at hkl; simp at hkl)
        cases hAA1
        obtain ⟨g0, g1, g2, g3, g4⟩ := hc1 j hkl
        rw [EZ.out] at g0 g1 g2 g3 g4
        dsimp only at g0 g1 g2 g3 g4
        clear hc1
        have HC1 : AllCells w1 [(⟨bD, oD + j * 5 + 1, none⟩, .int .i64 x1a), (⟨bD, oD + j * 5 + 2, none⟩, .int .i64 x2a), (⟨bD, oD + j * 5 + 3, none⟩, .int .i64 y1a), (⟨bD, oD + j * 5 + 4, none⟩, .int .i64 y2a)] := ⟨g1, g2, g3, g4, trivial⟩
        go_wp2_with fail
        refine And.intro (fun _ => HC1) ?_
        refine anyN_more [12] 0 (by kernel_rfl) (by kernel_rfl) (by kernel_rfl) (by kernel_rfl) (fun _ _ _ _ _ h => h) HC1 ?_
        intro hne hu
        simp only [AllCells] at hu
        simp only [pick, List.take_succ_cons, List.take_zero, List.drop_succ_cons, List.drop_zero, List.cons_append, List.nil_append]
        repeat (go_big_quiet_step (fail))
        refine wpQuiet_nil ?_
        clear hne hu
        refine ⟨by kernel_rfl, ?_⟩
        clear HC1 g0 g1 g2 g3 g4
        go_wp2_with fail
        have D2 := Lib.hid (S2.out.next ((Below.refl _ w1).drew))
        obtain ⟨b2, o2, hAA2, ho2, _, hc2⟩ := D2.out.d.acts (fun e => by rw [e] at hkl; simp at hkl)
        cases hAA2
        obtain ⟨g0, g1, g2, g3, g4⟩ := hc2 j hkl
        rw [EZ.out] at g0 g1 g2 g3 g4
        dsimp only at g0 g1 g2 g3 g4
        clear hc2
        have x0 := D2.out.bx.blk.cell 0
        have x1 := D2.out.bx.blk.cell 1
        have x2 := D2.out.bx.blk.cell 2
        simp only [List.getElem?_toArray, List.getElem?_cons_zero, List.getElem?_cons_succ] at x0 x1 x2
        have HC2 : AllCells w1.drew [(⟨bD, oD + j * 5 + 1, none⟩, .int .i64 x1a), (⟨bD, oD + j * 5 + 2, none⟩, .int .i64 x2a), (⟨bD, oD + j * 5 + 3, none⟩, .int .i64 y1a), (⟨bD, oD + j * 5 + 4, none⟩, .int .i64 y2a)] := ⟨g1, g2, g3, g4, trivial⟩
        have lx := D2.out.bx.blk.lt
        have HIN := Lib.hid (rins48_c A B C F.length c P.length d K.length f F P K x1a x2a y1a y2a w1.drew own1 D2.out.rs D2.out.clean.fresh rfl rfl rfl hPl)
        clear g0 g1 g2 g3 g4 S2
        refine region_free _ [1, 2, 3, 4, 5, 6, 7, 8, 9, 10] 7 (by kernel_rfl) (by kernel_rfl) (by kernel_rfl) (by kernel_rfl) (by kernel_rfl) (fun _ _ _ _ _ h => h) HC2 ?_
        intro hne hu
        simp only [AllCells] at hu
        simp only [pick, List.take_succ_cons, List.take_zero, List.drop_succ_cons, List.drop_zero, List.cons_append, List.nil_append]
        repeat (go_big_quiet_step (fail))
        refine wpQuiet_nil ?_
        clear hne hu
        refine anyN_oneL 0 (by kernel_rfl) ?_
        simp only [List.take_succ_cons, List.take_zero, List.drop_succ_cons, List.drop_zero]
        go_wp2_with fail
        refine And.intro (fun _ => HC2) ?_
        refine anyN_oneL 11 (by kernel_rfl) ?_
        simp only [List.take_succ_cons, List.take_zero, List.drop_succ_cons, List.drop_zero]
        go_wp2_with fail
        clear x0 x1 x2 lx
        refine HIN.out.mono ?_
        rintro e w2 ⟨A', B', C', c', d', f', rfl, hb2, rs2⟩
        have S3 := Lib.hid (D2.out.next hb2)
        have S4 := Lib.hid (S3.out.put (c' := c') rs2)
        clear hb2 rs2 HIN D2 HC2
        obtain ⟨b3, o3, hAA3, ho3, _, hc3⟩ := S3.out.d.acts (fun e => by rw [e] at hkl; simp at hkl)
        cases hAA3
        obtain ⟨g0, g1, g2, g3, g4⟩ := hc3 j hkl
        rw [EZ.out] at g0 g1 g2 g3 g4
        dsimp only at g0 g1 g2 g3 g4
        clear hc3
        have x0 := S3.out.bx.blk.cell 0
        have x1 := S3.out.bx.blk.cell 1
        have x2 := S3.out.bx.blk.cell 2
        simp only [List.getElem?_toArray, List.getElem?_cons_zero, List.getElem?_cons_succ] at x0 x1 x2
        have HC3 : Hid (AllCells w2 [(⟨bD, oD + j * 5 + 1, none⟩, .int .i64 x1a), (⟨bD, oD + j * 5 + 2, none⟩, .int .i64 x2a), (⟨bD, oD + j * 5 + 3, none⟩, .int .i64 y1a), (⟨bD, oD + j * 5 + 4, none⟩, .int .i64 y2a)]) := ⟨g1, g2, g3, g4, trivial⟩
        have fx0 := S3.out.bx.blk.frozen 0
        have fx1 := S3.out.bx.blk.frozen 1
        have fx2 := S3.out.bx.blk.frozen 2
        have lx := S3.out.bx.blk.lt
        clear g0 g1 g2 g3 g4
        go_wp2_with fail
        refine And.intro (fun _ => HC3.out) ?_
        refine anyN_more [12, 13, 14] 2 (by kernel_rfl) (by kernel_rfl) (by kernel_rfl) (by kernel_rfl) (fun _ _ _ _ _ h => h) HC3.out ?_
        intro hne hu
        simp only [AllCells] at hu
        simp only [pick, List.take_succ_cons, List.take_zero, List.drop_succ_cons, List.drop_zero, List.cons_append, List.nil_append]
        repeat (go_big_quiet_step (fail))
        refine wpQuiet_nil ?_
        clear hne hu
        refine anyN_oneL 15 (by kernel_rfl) ?_
        simp only [List.take_succ_cons, List.take_zero, List.drop_succ_cons, List.drop_zero]
        go_wp2_with fail
        clear x0 x1 x2 fx0 fx1 fx2 lx
        have HC4 : Hid (AllCells (((w2.setCell ⟨X, 0, none⟩ (.slice A' F.length c')).setCell ⟨X, 1, none⟩ (.slice B' (insPuts F P (x1a, x2a) (y1a, y2a)).length d')).setCell ⟨X, 2, none⟩ (.slice C' K.length f')) [(⟨bD, oD + j * 5 + 1, none⟩, .int .i64 x1a), (⟨bD, oD + j * 5 + 2, none⟩, .int .i64 x2a), (⟨bD, oD + j * 5 + 3, none⟩, .int .i64 y1a), (⟨bD, oD + j * 5 + 4, none⟩, .int .i64 y2a)]) := by
          obtain ⟨bb, oo, hAA, _, _, hcc⟩ := S4.out.d.acts (fun e => by rw [e] at hkl; simp at hkl)
          cases hAA
          obtain ⟨_, g1, g2, g3, g4⟩ := hcc j hkl
          rw [EZ.out] at g1 g2 g3 g4
          exact ⟨g1, g2, g3, g4, trivial⟩
        refine And.intro (fun _ => HC4.out) ?_
        refine anyN_oneL 16 (by kernel_rfl) ?_
        simp only [List.take_succ_cons, List.take_zero, List.drop_succ_cons, List.drop_zero]
        go_wp2_with fail
        refine And.intro (fun _ => HC4.out) ?_
        refine ⟨by kernel_rfl, ?_⟩
        go_wp2_with fail
        clear HC3 HC4 S3
        have hP2 : Hid ((insPuts F P (x1a, x2a) (y1a, y2a)).length ≤ j + 1 ∧ K.length ≤ j + 1) := ⟨by have := insPuts_le F P (x1a, x2a) (y1a, y2a); omega, by omega⟩
        generalize hP2' : (insPuts F P (x1a, x2a) (y1a, y2a)) = P2 at *
        generalize hNU : (insS F P (x1a, x2a) (y1a, y2a)) = NU at *
        clear hP2' hNU hPl hKl hKl' hPj hKj HPK
        generalize K = K2 at *
        change Hid (PS w q X w.heap.size R (some ⟨bD, oD, none⟩) Gp A' B' C' gn gc c' d' f' F P2 K2 P2 K2 ps gl own1 (((w2.setCell ⟨X, 0, none⟩ (.slice A' F.length c')).setCell ⟨X, 1, none⟩ (.slice B' P2.length d')).setCell ⟨X, 2, none⟩ (.slice C' K2.length f'))) at S4
        generalize ((w2.setCell ⟨X, 0, none⟩ (.slice A' F.length c')).setCell ⟨X, 1, none⟩ (.slice B' P2.length d')).setCell ⟨X, 2, none⟩ (.slice C' K2.length f') = W4 at *
        have S5 := Lib.hid (S4.out.next ((Below.refl _ W4).drew))
        obtain ⟨b5, o5, hAA5, ho5, _, hc5⟩ := S5.out.d.acts (fun e => by rw [e] at hkl; simp at hkl)
        cases hAA5
        obtain ⟨g0, g1, g2, g3, g4⟩ := hc5 j hkl
        rw [EZ.out] at g0 g1 g2 g3 g4
        dsimp only at g0 g1 g2 g3 g4
        clear hc5
        have x0 := S5.out.bx.blk.cell 0
        have x1 := S5.out.bx.blk.cell 1
        have x2 := S5.out.bx.blk.cell 2
        simp only [List.getElem?_toArray, List.getElem?_cons_zero, List.getElem?_cons_succ] at x0 x1 x2
        have HC : AllCells W4.drew [(⟨bD, oD + j * 5 + 1, none⟩, .int .i64 x1a), (⟨bD, oD + j * 5 + 2, none⟩, .int .i64 x2a), (⟨bD, oD + j * 5 + 3, none⟩, .int .i64 y1a), (⟨bD, oD + j * 5 + 4, none⟩, .int .i64 y2a), (⟨X, 0, none⟩, .slice A' F.length c'), (⟨X, 1, none⟩, .slice B' P2.length d'), (⟨X, 2, none⟩, .slice C' K2.length f')] := ⟨g1, g2, g3, g4, x0, x1, x2, trivial⟩
        clear g0 g1 g2 g3 g4 x0 x1 x2 S4
        refine region_free _ [0, 1, 2, 3, 4, 5, 6, 7, 8, 9, 11, 12, 13, 14, 15, 16] 21 (by kernel_rfl) (by kernel_rfl) (by kernel_rfl) (by kernel_rfl) (by kernel_rfl) (fun _ _ _ _ _ h => h) HC ?_
        intro hne hu
        simp only [AllCells] at hu
        simp only [pick, List.take_succ_cons, List.take_zero, List.drop_succ_cons, List.drop_zero, List.cons_append, List.nil_append]
        repeat (go_big_quiet_step (fail))
        refine wpQuiet_nil ?_
        clear hne hu
        refine anyN_oneL 10 (by kernel_rfl) ?_
        simp only [List.take_succ_cons, List.take_zero, List.drop_succ_cons, List.drop_zero]
        go_wp2_with fail
        refine (shas_c W4.drew own1 1 q F P2 K2 x1a x2a S5.out.sh).mono ?_
        rintro e w6 ⟨rfl, hb⟩
        have S6 := Lib.hid (S5.out.next hb)
        obtain ⟨q1, hq1⟩ : ∃ b, has F P2 (x1a, x2a) = b := ⟨_, rfl⟩
        rw [hq1]
        have HQ1 := Lib.hid hq1
        have HC1 := AllCells.below HC hb
        clear hb hq1 S5 HC
        go_wp2_with fail
        refine And.intro (fun _ => HC1) ?_
        refine anyN_oneL 17 (by kernel_rfl) ?_
        simp only [List.take_succ_cons, List.take_zero, List.drop_succ_cons, List.drop_zero]
        go_wp2_with fail
        refine (has49_c A' B' C' F.length c' P2.length d' K2.length f' F P2 K2 x1a x2a w6 own1 S6.out.rs rfl rfl (by omega) (by have := hP2.out.1; omega)).mono ?_
        rintro e w7 ⟨rfl, hb⟩
        rw [HQ1.out]
        have S7 := Lib.hid (S6.out.next hb)
        have HC2 := AllCells.below HC1 hb
        clear hb S6 HC1
        go_wp2_with fail
        refine And.intro (fun _ => HC2) ?_
        cases q1
        all_goals
          refine anyN_more [18, 19, 20, 21, 22, 23, 24, 25, 26, 28, 29, 30, 31, 32, 33] 4 (by kernel_rfl) (by kernel_rfl) (by kernel_rfl) (by kernel_rfl) (fun _ _ _ _ _ h => h) HC2 ?_
          intro hne hu
          simp only [AllCells] at hu
          simp only [pick, List.take_succ_cons, List.take_zero, List.drop_succ_cons, List.drop_zero, List.cons_append, List.nil_append]
          repeat (go_big_quiet_step (fail))
          refine wpQuiet_nil ?_
          clear hne hu
          refine anyN_oneL 27 (by kernel_rfl) ?_
          simp only [List.take_succ_cons, List.take_zero, List.drop_succ_cons, List.drop_zero]
          go_wp2_with fail
          refine (shas_c w7 own1 1 q F P2 K2 y1a y2a S7.out.sh).mono ?_
          rintro e w8 ⟨rfl, hb⟩
          have S8 := Lib.hid (S7.out.next hb)
          obtain ⟨q3, hq3⟩ : ∃ b, has F P2 (y1a, y2a) = b := ⟨_, rfl⟩
          rw [hq3]
          have HQ3 := Lib.hid hq3
          have HC3 := AllCells.below HC2 hb
          clear hb hq3 S7 HC2
          go_wp2_with fail
          refine And.intro (fun _ => HC3) ?_
          refine anyN_oneL 34 (by kernel_rfl) ?_
          simp only [List.take_succ_cons, List.take_zero, List.drop_succ_cons, List.drop_zero]
          go_wp2_with fail
          refine (has49_c A' B' C' F.length c' P2.length d' K2.length f' F P2 K2 y1a y2a w8 own1 S8.out.rs rfl rfl (by omega) (by have := hP2.out.1; omega)).mono ?_
          rintro e w9 ⟨rfl, hb⟩
          rw [HQ3.out]
          have S9 := Lib.hid (S8.out.next hb)
          have HC4 := AllCells.below HC3 hb
          clear hb S8 HC3
          go_wp2_with fail
          refine And.intro (fun _ => HC4) ?_
          cases q3
          all_goals
            refine anyN_more [35, 36] 0 (by kernel_rfl) (by kernel_rfl) (by kernel_rfl) (by kernel_rfl) (fun _ _ _ _ _ h => h) HC4 ?_
            intro hne hu
            simp only [AllCells] at hu
            simp only [pick, List.take_succ_cons, List.take_zero, List.drop_succ_cons, List.drop_zero, List.cons_append, List.nil_append]
            repeat (go_big_quiet_step (fail))
            refine wpQuiet_nil ?_
            clear hne hu
            refine ⟨by kernel_rfl, ?_⟩
            clear HC4
            go_wp2_with fail
            go_roundw
            case rel => exact ⟨j + 1, own1, P2, K2, A', B', C', c', d', f', by omega, by go_num, S9.out, hP2.out⟩
            case measure => simp [intOf]; omega
      · go_wp2_with fail
        clear g0
        have D0 := Lib.hid (S1.out.next ((Below.refl _ wr).drew))
        obtain ⟨b0, o0, hAA0, ho0, _, hc0⟩ := D0.out.d.acts (fun e => by rw [e] at hkl; simp at hkl)
        cases hAA0
        obtain ⟨g0, g1, g2, g3, g4⟩ := hc0 j hkl
        rw [EZ.out] at g0 g1 g2 g3 g4
        dsimp only at g0 g1 g2 g3 g4
        clear hc0
        have HC : AllCells wr.drew [(⟨bD, oD + j * 5 + 1, none⟩, .int .i64 x1a), (⟨bD, oD + j * 5 + 2, none⟩, .int .i64 x2a), (⟨bD, oD + j * 5 + 3, none⟩, .int .i64 y1a), (⟨bD, oD + j * 5 + 4, none⟩, .int .i64 y2a)] := ⟨g1, g2, g3, g4, trivial⟩
        have HIN := Lib.hid (sdelete_c wr.drew own 1 q F P K x1a x2a y1a y2a D0.out.sh D0.out.clean.fresh (by decide) hKl)
        clear g0 g1 g2 g3 g4 S1
        refine region_free _ [0, 1, 2, 3, 4, 5, 6, 7, 8, 9, 10] 2 (by kernel_rfl) (by kernel_rfl) (by kernel_rfl) (by kernel_rfl) (by kernel_rfl) (fun _ _ _ _ _ h => h) HC ?_
        intro hne hu
        simp only [AllCells] at hu
        simp only [pick, List.take_succ_cons, List.take_zero, List.drop_succ_cons, List.drop_zero, List.cons_append, List.nil_append]
        repeat (go_big_quiet_step (fail))
        refine wpQuiet_nil ?_
        clear hne hu
        refine anyN_oneL 11 (by kernel_rfl) ?_
        simp only [List.take_succ_cons, List.take_zero, List.drop_succ_cons, List.drop_zero]
        go_wp2_with fail
        refine HIN.out.mono ?_
        rintro e w1 ⟨rfl, own1, tr1, sh1⟩
        have S2 := Lib.hid (D0.out.act tr1 sh1)
        clear tr1 sh1 HIN D0 HC
        obtain ⟨b1, o1, hAA1, ho1, _, hc1⟩ := S2.out.d.acts (fun e => by rw [e] at hkl; simp at hkl)
        cases hAA1
        obtain ⟨g0, g1, g2, g3, g4⟩ := hc1 j hkl
        rw [EZ.out] at g0 g1 g2 g3 g4
        dsimp only at g0 g1 g2 g3 g4
        clear hc1
        have HC1 : AllCells w1 [(⟨bD, oD + j * 5 + 1, none⟩, .int .i64 x1a), (⟨bD, oD + j * 5 + 2, none⟩, .int .i64 x2a), (⟨bD, oD + j * 5 + 3, none⟩, .int .i64 y1a), (⟨bD, oD + j * 5 + 4, none⟩, .int .i64 y2a)] := ⟨g1, g2, g3, g4, trivial⟩
        go_wp2_with fail
        refine And.intro (fun _ => HC1) ?_
        refine anyN_more [12] 0 (by kernel_rfl) (by kernel_rfl) (by kernel_rfl) (by kernel_rfl) (fun _ _ _ _ _ h => h) HC1 ?_
        intro hne hu
        simp only [AllCells] at hu
        simp only [pick, List.take_succ_cons, List.take_zero, List.drop_succ_cons, List.drop_zero, List.cons_append, List.nil_append]
        repeat (go_big_quiet_step (fail))
        refine wpQuiet_nil ?_
        clear hne hu
        refine ⟨by kernel_rfl, ?_⟩
        clear HC1 g0 g1 g2 g3 g4
        go_wp2_with fail
        have D2 := Lib.hid (S2.out.next ((Below.refl _ w1).drew))
        obtain ⟨b2, o2, hAA2, ho2, _, hc2⟩ := D2.out.d.acts (fun e => by rw [e] at hkl; simp at hkl)
        cases hAA2
        obtain ⟨g0, g1, g2, g3, g4⟩ := hc2 j hkl
        rw [EZ.out] at g0 g1 g2 g3 g4
        dsimp only at g0 g1 g2 g3 g4
        clear hc2
        have x0 := D2.out.bx.blk.cell 0
        have x1 := D2.out.bx.blk.cell 1
        have x2 := D2.out.bx.blk.cell 2
        simp only [List.getElem?_toArray, List.getElem?_cons_zero, List.getElem?_cons_succ] at x0 x1 x2
        have HC2 : AllCells w1.drew [(⟨bD, oD + j * 5 + 1, none⟩, .int .i64 x1a), (⟨bD, oD + j * 5 + 2, none⟩, .int .i64 x2a), (⟨bD, oD + j * 5 + 3, none⟩, .int .i64 y1a), (⟨bD, oD + j * 5 + 4, none⟩, .int .i64 y2a)] := ⟨g1, g2, g3, g4, trivial⟩
        have lx := D2.out.bx.blk.lt
        have HIN := Lib.hid (rdel47_c A B C F.length c P.length d K.length f F P K x1a x2a y1a y2a w1.drew own1 D2.out.rs D2.out.clean.fresh rfl rfl rfl hPl hKl')
        clear g0 g1 g2 g3 g4 S2
        refine region_free _ [1, 2, 3, 4, 5, 6, 7, 8, 9, 10] 7 (by kernel_rfl) (by kernel_rfl) (by kernel_rfl) (by kernel_rfl) (by kernel_rfl) (fun _ _ _ _ _ h => h) HC2 ?_
        intro hne hu
        simp only [AllCells] at hu
        simp only [pick, List.take_succ_cons, List.take_zero, List.drop_succ_cons, List.drop_zero, List.cons_append, List.nil_append]
        repeat (go_big_quiet_step (fail))
        refine wpQuiet_nil ?_
        clear hne hu
        refine anyN_oneL 0 (by kernel_rfl) ?_
        simp only [List.take_succ_cons, List.take_zero, List.drop_succ_cons, List.drop_zero]
        go_wp2_with fail
        refine And.intro (fun _ => HC2) ?_
        refine anyN_oneL 11 (by kernel_rfl) ?_
        simp only [List.take_succ_cons, List.take_zero, List.drop_succ_cons, List.drop_zero]
        go_wp2_with fail
        clear x0 x1 x2 lx
        refine HIN.out.mono ?_
        rintro e w2 ⟨A', B', C', c', d', f', rfl, hb2, rs2⟩
        have S3 := Lib.hid (D2.out.next hb2)
        have S4 := Lib.hid (S3.out.put (c' := c') rs2)
        clear hb2 rs2 HIN D2 HC2
        obtain ⟨b3, o3, hAA3, ho3, _, hc3⟩ := S3.out.d.acts (fun e => by rw [e] at hkl; simp at hkl)
        cases hAA3
        obtain ⟨g0, g1, g2, g3, g4⟩ := hc3 j hkl
        rw [EZ.out] at g0 g1 g2 g3 g4
        dsimp only at g0 g1 g2 g3 g4
        clear hc3
        have x0 := S3.out.bx.blk.cell 0
        have x1 := S3.out.bx.blk.cell 1
        have x2 := S3.out.bx.blk.cell 2
        simp only [List.getElem?_toArray, List.getElem?_cons_zero, List.getElem?_cons_succ] at x0 x1 x2
        have HC3 : Hid (AllCells w2 [(⟨bD, oD + j * 5 + 1, none⟩, .int .i64 x1a), (⟨bD, oD + j * 5 + 2, none⟩, .int .i64 x2a), (⟨bD, oD + j * 5 + 3, none⟩, .int .i64 y1a), (⟨bD, oD + j * 5 + 4, none⟩, .int .i64 y2a)]) := ⟨g1, g2, g3, g4, trivial⟩
        have fx0 := S3.out.bx.blk.frozen 0
        have fx1 := S3.out.bx.blk.frozen 1
        have fx2 := S3.out.bx.blk.frozen 2
        have lx := S3.out.bx.blk.lt
        clear g0 g1 g2 g3 g4
        go_wp2_with fail
        refine And.intro (fun _ => HC3.out) ?_
        refine anyN_more [12, 13, 14] 2 (by kernel_rfl) (by kernel_rfl) (by kernel_rfl) (by kernel_rfl) (fun _ _ _ _ _ h => h) HC3.out ?_
        intro hne hu
        simp only [AllCells] at hu
        simp only [pick, List.take_succ_cons, List.take_zero, List.drop_succ_cons, List.drop_zero, List.cons_append, List.nil_append]
        repeat (go_big_quiet_step (fail))
        refine wpQuiet_nil ?_
        clear hne hu
        refine anyN_oneL 15 (by kernel_rfl) ?_
        simp only [List.take_succ_cons, List.take_zero, List.drop_succ_cons, List.drop_zero]
        go_wp2_with fail
        clear x0 x1 x2 fx0 fx1 fx2 lx
        have HC4 : Hid (AllCells (((w2.setCell ⟨X, 0, none⟩ (.slice A' F.length c')).setCell ⟨X, 1, none⟩ (.slice B' P.length d')).setCell ⟨X, 2, none⟩ (.slice C' (cutCuts F P K (x1a, x2a) (y1a, y2a)).length f')) [(⟨bD, oD + j * 5 + 1, none⟩, .int .i64 x1a), (⟨bD, oD + j * 5 + 2, none⟩, .int .i64 x2a), (⟨bD, oD + j * 5 + 3, none⟩, .int .i64 y1a), (⟨bD, oD + j * 5 + 4, none⟩, .int .i64 y2a)]) := by
          obtain ⟨bb, oo, hAA, _, _, hcc⟩ := S4.out.d.acts (fun e => by rw [e] at hkl; simp at hkl)
          cases hAA
          obtain ⟨_, g1, g2, g3, g4⟩ := hcc j hkl
          rw [EZ.out] at g1 g2 g3 g4
          exact ⟨g1, g2, g3, g4, trivial⟩
        refine And.intro (fun _ => HC4.out) ?_
        refine anyN_oneL 16 (by kernel_rfl) ?_
        simp only [List.take_succ_cons, List.take_zero, List.drop_succ_cons, List.drop_zero]
        go_wp2_with fail
        refine And.intro (fun _ => HC4.out) ?_
        refine ⟨by kernel_rfl, ?_⟩
        go_wp2_with fail
        clear HC3 HC4 S3
        have hP2 : Hid (P.length ≤ j + 1 ∧ (cutCuts F P K (x1a, x2a) (y1a, y2a)).length ≤ j + 1) := ⟨by omega, by have := cutCuts_le F P K (x1a, x2a) (y1a, y2a); omega⟩
        generalize hK2' : (cutCuts F P K (x1a, x2a) (y1a, y2a)) = K2 at *
        generalize hNU : (cutS F P K (x1a, x2a) (y1a, y2a)) = NU at *
        clear hK2' hNU hPl hKl hKl' hPj hKj HPK
        generalize P = P2 at *
        change Hid (PS w q X w.heap.size R (some ⟨bD, oD, none⟩) Gp A' B' C' gn gc c' d' f' F P2 K2 P2 K2 ps gl own1 (((w2.setCell ⟨X, 0, none⟩ (.slice A' F.length c')).setCell ⟨X, 1, none⟩ (.slice B' P2.length d')).setCell ⟨X, 2, none⟩ (.slice C' K2.length f'))) at S4
        generalize ((w2.setCell ⟨X, 0, none⟩ (.slice A' F.length c')).setCell ⟨X, 1, none⟩ (.slice B' P2.length d')).setCell ⟨X, 2, none⟩ (.slice C' K2.length f') = W4 at *
        have S5 := Lib.hid (S4.out.next ((Below.refl _ W4).drew))
        obtain ⟨b5, o5, hAA5, ho5, _, hc5⟩ := S5.out.d.acts (fun e => by rw [e] at hkl; simp at hkl)
        cases hAA5
        obtain ⟨g0, g1, g2, g3, g4⟩ := hc5 j hkl
        rw [EZ.out] at g0 g1 g2 g3 g4
        dsimp only at g0 g1 g2 g3 g4
        clear hc5
        have x0 := S5.out.bx.blk.cell 0
        have x1 := S5.out.bx.blk.cell 1
        have x2 := S5.out.bx.blk.cell 2
        simp only [List.getElem?_toArray, List.getElem?_cons_zero, List.getElem?_cons_succ] at x0 x1 x2
        have HC : AllCells W4.drew [(⟨bD, oD + j * 5 + 1, none⟩, .int .i64 x1a), (⟨bD, oD + j * 5 + 2, none⟩, .int .i64 x2a), (⟨bD, oD + j * 5 + 3, none⟩, .int .i64 y1a), (⟨bD, oD + j * 5 + 4, none⟩, .int .i64 y2a), (⟨X, 0, none⟩, .slice A' F.length c'), (⟨X, 1, none⟩, .slice B' P2.length d'), (⟨X, 2, none⟩, .slice C' K2.length f')] := ⟨g1, g2, g3, g4, x0, x1, x2, trivial⟩
        clear g0 g1 g2 g3 g4 x0 x1 x2 S4
        refine region_free _ [0, 1, 2, 3, 4, 5, 6, 7, 8, 9, 11, 12, 13, 14, 15, 16] 21 (by kernel_rfl) (by kernel_rfl) (by kernel_rfl) (by kernel_rfl) (by kernel_rfl) (fun _ _ _ _ _ h => h) HC ?_
        intro hne hu
        simp only [AllCells] at hu
        simp only [pick, List.take_succ_cons, List.take_zero, List.drop_succ_cons, List.drop_zero, List.cons_append, List.nil_append]
        repeat (go_big_quiet_step (fail))
        refine wpQuiet_nil ?_
        clear hne hu
        refine anyN_oneL 10 (by kernel_rfl) ?_
        simp only [List.take_succ_cons, List.take_zero, List.drop_succ_cons, List.drop_zero]
        go_wp2_with fail
        refine (shas_c W4.drew own1 1 q F P2 K2 x1a x2a S5.out.sh).mono ?_
        rintro e w6 ⟨rfl, hb⟩
        have S6 := Lib.hid (S5.out.next hb)
        obtain ⟨q1, hq1⟩ : ∃ b, has F P2 (x1a, x2a) = b := ⟨_, rfl⟩
        rw [hq1]
        have HQ1 := Lib.hid hq1
        have HC1 := AllCells.below HC hb
        clear hb hq1 S5 HC
        go_wp2_with fail
        refine And.intro (fun _ => HC1) ?_
        refine anyN_oneL 17 (by kernel_rfl) ?_
        simp only [List.take_succ_cons, List.take_zero, List.drop_succ_cons, List.drop_zero]
        go_wp2_with fail
        refine (has49_c A' B' C' F.length c' P2.length d' K2.length f' F P2 K2 x1a x2a w6 own1 S6.out.rs rfl rfl (by omega) (by have := hP2.out.1; omega)).mono ?_
        rintro e w7 ⟨rfl, hb⟩
        rw [HQ1.out]
        have S7 := Lib.hid (S6.out.next hb)
        have HC2 := AllCells.below HC1 hb
        clear hb S6 HC1
        go_wp2_with fail
        refine And.intro (fun _ => HC2) ?_
        cases q1
        all_goals
          refine anyN_more [18, 19, 20, 21, 22, 23, 24, 25, 26, 28, 29, 30, 31, 32, 33] 4 (by kernel_rfl) (by kernel_rfl) (by kernel_rfl) (by kernel_rfl) (fun _ _ _ _ _ h => h) HC2 ?_
          intro hne hu
          simp only [AllCells] at hu
          simp only [pick, List.take_succ_cons, List.take_zero, List.drop_succ_cons, List.drop_zero, List.cons_append, List.nil_append]
          repeat (go_big_quiet_step (fail))
          refine wpQuiet_nil ?_
          clear hne hu
          refine anyN_oneL 27 (by kernel_rfl) ?_
          simp only [List.take_succ_cons, List.take_zero, List.drop_succ_cons, List.drop_zero]
          go_wp2_with fail
          refine (shas_c w7 own1 1 q F P2 K2 y1a y2a S7.out.sh).mono ?_
          rintro e w8 ⟨rfl, hb⟩
          have S8 := Lib.hid (S7.out.next hb)
          obtain ⟨q3, hq3⟩ : ∃ b, has F P2 (y1a, y2a) = b := ⟨_, rfl⟩
          rw [hq3]
          have HQ3 := Lib.hid hq3
          have HC3 := AllCells.below HC2 hb
          clear hb hq3 S7 HC2
          go_wp2_with fail
          refine And.intro (fun _ => HC3) ?_
          refine anyN_oneL 34 (by kernel_rfl) ?_
          simp only [List.take_succ_cons, List.take_zero, List.drop_succ_cons, List.drop_zero]
          go_wp2_with fail
          refine (has49_c A' B' C' F.length c' P2.length d' K2.length f' F P2 K2 y1a y2a w8 own1 S8.out.rs rfl rfl (by omega) (by have := hP2.out.1; omega)).mono ?_
          rintro e w9 ⟨rfl, hb⟩
          rw [HQ3.out]
          have S9 := Lib.hid (S8.out.next hb)
          have HC4 := AllCells.below HC3 hb
          clear hb S8 HC3
          go_wp2_with fail
          refine And.intro (fun _ => HC4) ?_
          cases q3
          all_goals
            refine anyN_more [35, 36] 0 (by kernel_rfl) (by kernel_rfl) (by kernel_rfl) (by kernel_rfl) (fun _ _ _ _ _ h => h) HC4 ?_
            intro hne hu
            simp only [AllCells] at hu
            simp only [pick, List.take_succ_cons, List.take_zero, List.drop_succ_cons, List.drop_zero, List.cons_append, List.nil_append]
            repeat (go_big_quiet_step (fail))
            refine wpQuiet_nil ?_
            clear hne hu
            refine ⟨by kernel_rfl, ?_⟩
            clear HC4
            go_wp2_with fail
            go_roundw
            case rel => exact ⟨j + 1, own1, P2, K2, A', B', C', c', d', f', by omega, by go_num, S9.out, hP2.out⟩
            case measure => simp [intOf]; omega
    · have hkk : j = m := by omega
      have hjn : ¬ ((j : Int) < (m : Int)) := by omega
      subst hkk
      have hPl : P.length ≤ 1000 := by omega
      have hKl : K.length ≤ 1000 := by omega
      have x0 := S1.out.bx.blk.cell 0
      have x1 := S1.out.bx.blk.cell 1
      have x2 := S1.out.bx.blk.cell 2
      have lx := S1.out.bx.blk.lt
      simp only [List.getElem?_toArray, List.getElem?_cons_zero, List.getElem?_cons_succ] at x0 x1 x2
      go_wp2_with fail
      clear x0 x1 x2 lx
      refine (all50_c A B C F.length c P.length d K.length f F P K wr S1.out.rs.plain S1.out.sh.wf rfl rfl).mono ?_
      rintro e w5 ⟨v5, rfl, hb5, hr5⟩
      obtain ⟨A5, c5, hv5, _⟩ := ownsRow_shape hr5
      subst hv5
      have HW := Lib.hid S1.out.sh.wf
      have io5 : IdsR w5 own 0 A5 (orderL F P) := ownsRow_ids hr5 (fun k hk => S1.out.clean.fresh.new hk)
      obtain ⟨OL, hOL⟩ : ∃ OL, orderL F P = OL := ⟨_, rfl⟩
      have hOl : OL.length ≤ 1000 := by rw [← hOL, (order_facts HW.out).2.2]; exact HW.out.len
      have HOL := Lib.hid hOL
      rw [hOL] at io5 ⊢
      have s5 := S1.out.next hb5
      have b6 : Below w5.heap.size w5 (w5.alloc (.cells #[.slice A5 OL.length c5] 22)) := (Below.refl _ _).alloc (Nat.le_refl _) _
      have S6 := Lib.hid (s5.next b6)
      have IO6 := Lib.hid (io5.belowTo b6)
      have BN6 := Lib.hid (Box.new s5.clean.fresh 22 #[.slice A5 OL.length c5])
      clear s5 b6 io5 hb5 hr5 hOL S1
      go_wp2_with fail
      generalize w5.alloc (.cells #[.slice A5 OL.length c5] 22) = V6 at *
      generalize w5.heap.size = N at *
      have bd6 : Below V6.heap.size V6 V6.drew := (Below.refl _ V6).drew
      have S7 := Lib.hid (S6.out.next bd6)
      have IO7 := Lib.hid (IO6.out.belowTo bd6)
      have BN7 := Lib.hid (BN6.out.next bd6)
      have HC : AllCells V6.drew [(⟨N, 0, none⟩, .slice A5 OL.length c5)] := ⟨BN7.out.blk.cell 0, trivial⟩
      clear bd6 S6 IO6 BN6
      refine region_free _ [0, 2] 11 (by kernel_rfl) (by kernel_rfl) (by kernel_rfl) (by kernel_rfl) (by kernel_rfl) (fun _ _ _ _ _ h => h) HC ?_
      intro hne hu
      simp only [AllCells] at hu
      simp only [pick, List.take_succ_cons, List.take_zero, List.drop_succ_cons, List.drop_zero, List.cons_append, List.nil_append]
      repeat (go_big_quiet_step (fail))
      refine wpQuiet_nil ?_
      clear hne hu
      refine anyN_oneL 1 (by kernel_rfl) ?_
      simp only [List.take_succ_cons, List.take_zero, List.drop_succ_cons, List.drop_zero]
      go_wp2_with fail
      refine (allq_c V6.drew own 1 2 q F P K S7.out.sh S7.out.clean.fresh (by decide) (by decide)).mono ?_
      rintro e w8 ⟨v8, own8, rfl, tr8, row8⟩
      rw [HOL.out] at row8
      obtain ⟨A8, c8, rfl, _⟩ := row8.form
      have S8 := Lib.hid (S7.out.other tr8)
      have IO8 := Lib.hid (IO7.out.keep tr8.size (tr8.toSame (by decide)))
      have BN8 := Lib.hid (BN7.out.tr tr8 (by decide))
      have R8 := Lib.hid row8.toIdsR.2
      have HC8 : AllCells w8 [(⟨N, 0, none⟩, .slice A5 OL.length c5)] := ⟨BN8.out.blk.cell 0, trivial⟩
      clear tr8 row8 S7 IO7 BN7 HC
      go_wp2_with fail
      refine And.intro (fun _ => HC8) ?_
      refine anyN_oneL 3 (by kernel_rfl) ?_
      simp only [List.take_succ_cons, List.take_zero, List.drop_succ_cons, List.drop_zero]
      go_wp2_with fail
      refine (same28_c A8 A5 OL.length OL.length c8 c5 OL OL w8 own8 own8 2 0 R8.out IO8.out rfl rfl (by omega)).mono ?_
      rintro e w9 ⟨rfl, hb9⟩
      rw [decide_eq_true rfl]
      have S9 := Lib.hid (S8.out.next hb9)
      have IO9 := Lib.hid (IO8.out.belowTo hb9)
      have BN9 := Lib.hid (BN8.out.next hb9)
      have HC9 : AllCells w9 [(⟨N, 0, none⟩, .slice A5 OL.length c5)] := ⟨BN9.out.blk.cell 0, trivial⟩
      clear hb9 S8 IO8 BN8 R8 HC8
      go_wp2_with fail
      refine And.intro (fun _ => HC9) ?_
      refine anyN_more [4, 5, 6, 9] 5 (by kernel_rfl) (by kernel_rfl) (by kernel_rfl) (by kernel_rfl) (fun _ _ _ _ _ h => h) HC9 ?_
      intro hne hu
      simp only [AllCells] at hu
      simp only [pick, List.take_succ_cons, List.take_zero, List.drop_succ_cons, List.drop_zero, List.cons_append, List.nil_append]
      repeat (go_big_quiet_step (fail))
      refine wpQuiet_nil ?_
      clear hne hu
      refine anyN_oneL 7 (by kernel_rfl) ?_
      simp only [List.take_succ_cons, List.take_zero, List.drop_succ_cons, List.drop_zero]
      go_wp2_with fail
      refine (sclone_c w9 own8 1 q F P K S9.out.sh hKl).mono ?_
      rintro e w10 ⟨q10, rfl, _, hb10, sh10⟩
      have S10 := Lib.hid (S9.out.next hb10)
      have IO10 := Lib.hid (IO9.out.belowTo hb10)
      have BN10 := Lib.hid (BN9.out.next hb10)
      have HC10 : AllCells w10 [(⟨N, 0, none⟩, .slice A5 OL.length c5)] := ⟨BN10.out.blk.cell 0, trivial⟩
      have SH10 := Lib.hid sh10
      clear hb10 S9 IO9 BN9 HC9 sh10
      go_wp2_with fail
      refine And.intro (fun _ => HC10) ?_
      refine anyN_oneL 8 (by kernel_rfl) ?_
      simp only [List.take_succ_cons, List.take_zero, List.drop_succ_cons, List.drop_zero]
      go_wp2_with fail
      refine (allq_c w10 _ 1 2 q10 F P K SH10.out (newIn_fresh _ _) (by decide) (by decide)).mono ?_
      rintro e w11 ⟨v11, own11, rfl, tr11, row11⟩
      rw [HOL.out] at row11
      obtain ⟨A11, c11, rfl, _⟩ := row11.form
      have hb11 : Below w10.heap.size w10 w11 := tr11.toBelow (fun k _ => by unfold newIn; split <;> decide)
      have S11 := Lib.hid (S10.out.next hb11)
      have IO11 := Lib.hid (IO10.out.belowTo hb11)
      have BN11 := Lib.hid (BN10.out.next hb11)
      have R11 := Lib.hid row11.toIdsR.2
      have HC11 : AllCells w11 [(⟨N, 0, none⟩, .slice A5 OL.length c5)] := ⟨BN11.out.blk.cell 0, trivial⟩
      clear tr11 row11 hb11 S10 IO10 BN10 HC10 SH10
      go_wp2_with fail
      refine And.intro (fun _ => HC11) ?_
      refine anyN_oneL 10 (by kernel_rfl) ?_
      simp only [List.take_succ_cons, List.take_zero, List.drop_succ_cons, List.drop_zero]
      go_wp2_with fail
      refine (same28_c A11 A5 OL.length OL.length c11 c5 OL OL w11 own11 own8 2 0 R11.out IO11.out rfl rfl (by omega)).mono ?_
      rintro e w12 ⟨rfl, hb12⟩
      rw [decide_eq_true rfl]
      have S12 := Lib.hid (S11.out.next hb12)
      have IO12 := Lib.hid (IO11.out.belowTo hb12)
      have BN12 := Lib.hid (BN11.out.next hb12)
      have HC12 : AllCells w12 [(⟨N, 0, none⟩, .slice A5 OL.length c5)] := ⟨BN12.out.blk.cell 0, trivial⟩
      clear hb12 S11 IO11 BN11 R11 HC11
      go_wp2_with fail
      refine And.intro (fun _ => HC12) ?_
      refine anyN_more [11, 12] 0 (by kernel_rfl) (by kernel_rfl) (by kernel_rfl) (by kernel_rfl) (fun _ _ _ _ _ h => h) HC12 ?_
      intro hne hu
      simp only [AllCells] at hu
      simp only [pick, List.take_succ_cons, List.take_zero, List.drop_succ_cons, List.drop_zero, List.cons_append, List.nil_append]
      repeat (go_big_quiet_step (fail))
      refine wpQuiet_nil ?_
      clear hne hu
      refine ⟨by kernel_rfl, ?_⟩
      clear HC12
      go_wp2_with fail
      have bl12 : Below w12.heap.size w12 (w12.alloc (.cells #[.int .i64 0] 3)) := (Below.refl _ _).alloc (Nat.le_refl _) _
      have S13 := Lib.hid (S12.out.next bl12)
      have BNc := Lib.hid (Blk.new w12 3 #[.int .i64 0])
      refine (axis52_c _ own8 1 q F P K S13.out.sh hKl 53 w.heap.size gl (enters_of Try.func53 (by kernel_rfl) rfl) (gone53_c Gp gn gc gl w.heap.size _ S13.out.bg.blk S13.out.ig.plain hg'.out (by omega))).mono ?_
      rintro e w13 ⟨qa, ownA, rfl, hb13, ax13⟩
      rw [HOL.out] at ax13
      have hb12 := Below.comp bl12 hb13
      have bl14 : Below w13.heap.size w13 (w13.alloc (.cells #[.pointer (some ⟨qa, 0, none⟩)] 26)) := (Below.refl _ _).alloc (Nat.le_refl _) _
      have B14 := Lib.hid (Below.comp hb12 bl14)
      have b0 : Hid ((w13.alloc (.cells #[.pointer (some ⟨qa, 0, none⟩)] 26)).cell? ⟨w13.heap.size, 0, none⟩ = some (.pointer (some ⟨qa, 0, none⟩))) := (Blk.new w13 26 #[.pointer (some ⟨qa, 0, none⟩)]).cell 0
      have A14 := Lib.hid (ax13.keep (Same.below (own := ownA) bl14))
      have NI0 : Hid (NI w12 (OL.zip (OL.map (liveB P K gl))) [] (w13.alloc (.cells #[.pointer (some ⟨qa, 0, none⟩)] 26))) := ⟨(BNc.out.kept (hb13.block _ BNc.out.lt)).kept (bl14.block _ (Nat.lt_of_lt_of_le BNc.out.lt hb13.size)), B14.out, List.nil_prefix⟩
      have hW0 : w12.heap.size ≤ (w13.alloc (.cells #[.pointer (some ⟨qa, 0, none⟩)] 26)).heap.size := B14.out.size
      have hW1 : w12.heap.size < (w13.alloc (.cells #[.pointer (some ⟨qa, 0, none⟩)] 26)).heap.size := NI0.out.bn.lt
      clear bl12 S13 BNc hb13 ax13 hb12 bl14
      go_wp2_with fail
      refine (all_c _ _).mono ?_
      rintro e w14 ⟨rfl, rfl⟩
      generalize w13.alloc (.cells #[.pointer (some ⟨qa, 0, none⟩)] 26) = W0 at *
      generalize w13.heap.size = SZ at *
      go_wp2_with fail
      generalize hZ : OL.zip (OL.map (liveB P K gl)) = zs at *
      have hzl : zs.length = OL.length := by rw [← hZ, List.length_zip, List.length_map]; omega
      have HZ := Lib.hid hZ
      have HOLM : Hid (∀ z ∈ OL, has F P z = true) := fun z hz => ((order_facts HW.out).2.1 z).1 (by rw [HOL.out]; exact hz)
      clear hZ
      refine (wpIn_wide (n := 3)).1 ?_
      refine of_frame (fun T hT => ?_)
      have HT := Lib.hid hT
      clear hT
      refine wpIn_rangeFunc_ownH rfl (by omega) (gf := 70) (lb := #[.pointer (some ⟨SZ, 0, none⟩)]) (by rw [HT.out]; rfl) trivial (enters_of Try.func70 (by kernel_rfl) rfl)
        (all70_stops 2 (by omega) SZ qa 4 ownA OL (OL.map (liveB P K gl)) (FoN w12) (foN_ok _) W0 (fun W' hW' k hk => by unfold FoN; omega) b0.out A14.out) KF.trans (fun W l o o' _ h1 h2 _ => KF.put (foN_ok _) W l o o' h1 h2) (Below.refl _ _) (fun _ => rfl)
        (NI w12 zs) (fun _ pre _ => ¬ pre <+: zs) (NI.own hW0) (fun _ => ownFrom_pure _ _) NI0.out
        (fun x a' W => ∃ Bx, Bx ≠ w12.heap.size ∧ Blk W Bx 24 #[.int .i64 x.1.1, .int .i64 x.1.2] ∧ a' = { tmps := (((T.setIfInBounds 159 (.agg #[.int .i64 x.1.1, .int .i64 x.1.2])).setIfInBounds 160 (.bool x.2)).setIfInBounds 14 (.pointer (some ⟨Bx, 0, none⟩))).setIfInBounds 15 (.bool x.2), defers := [] })
        (fun x a' _ W W' row hs hg hr => by
          obtain ⟨Bx, h1, h2, h3⟩ := hs
          exact ⟨Bx, h1, h2.own hg (fun r e => (hr r e).2), h3⟩) ?assign ?body ?done ?stop
      case assign =>
        rintro l pre x W K0' hi hK
        have hT := HT.out
        subst hT
        unfold pairv
        have hlt := hi.bn.lt
        gi_wp2
        refine hK _ _ ((KeepsOthers.alloc _ _).from _) (KF.below (foN_ok w12) ((Below.refl _ W).alloc (Nat.le_refl _) _)) (hi.next ((Below.refl _ W).alloc (Nat.le_refl _) _)) ⟨W.heap.size, by omega, Blk.new W 24 _, ?_⟩
        simp only [List.setIfInBounds_toArray, List.set_cons_succ, List.set_cons_zero]
      case body =>
        rintro l pre x a' W hl _ hI ⟨Bx, hBx, bX, rfl⟩ hlt
        have hT := HT.out
        subst hT
        simp only [List.setIfInBounds_toArray, List.set_cons_succ, List.set_cons_zero]
        have S15 := Lib.hid (S12.out.next hI.below)
        have IO15 := Lib.hid (IO12.out.belowTo hI.below)
        have BN15 := Lib.hid (BN12.out.next hI.below)
        have HI := Lib.hid hI
        have c2 : W.cell? ⟨w12.heap.size, 0, none⟩ = some (.int .i64 (pre.length : Int)) := hI.bn.cell 0
        have cN : W.cell? ⟨N, 0, none⟩ = some (.slice A5 OL.length c5) := BN15.out.blk.cell 0
        have e0 : W.cell? ⟨Bx, 0, none⟩ = some (.int .i64 x.1.1) := bX.cell 0
        have e1 : W.cell? ⟨Bx, 1, none⟩ = some (.int .i64 x.1.2) := bX.cell 1
        have x0 : W.cell? ⟨X, 0, none⟩ = some (.slice A F.length c) := S15.out.bx.blk.cell 0
        have x1 : W.cell? ⟨X, 1, none⟩ = some (.slice B P.length d) := S15.out.bx.blk.cell 1
        have x2 : W.cell? ⟨X, 2, none⟩ = some (.slice C K.length f) := S15.out.bx.blk.cell 2
        have cG : W.cell? ⟨w.heap.size, 0, none⟩ = some (.slice Gp gn gc) := S15.out.bg.blk.cell 0
        have Hpre := Lib.hid hI.pre
        have hkl : pre.length ≤ OL.length := by have := hI.pre.length_le; omega
        clear hI bX
        obtain ⟨⟨i1, i2⟩, xb⟩ := x
        dsimp only at e0 e1 ⊢
        have hk : pre.length < OL.length := hlt
        obtain ⟨b5, o5, rfl, _, _, hcO⟩ := IO15.out (fun e => by rw [e] at hk; simp at hk)
        obtain ⟨g1, g2⟩ := hcO pre.length hk
        have hze := List.getElem?_eq_getElem hk
        have hzm := List.getElem_mem hk
        clear hcO
        generalize OL[pre.length] = z at *
        obtain ⟨z1, z2⟩ := z
        dsimp only at g1 g2
        have hLB := liveR_eq (K := K) HW.out gl (HOLM.out _ hzm)
        obtain ⟨bb, hbb⟩ : ∃ b, liveR F K gl (z1, z2) = b := ⟨_, rfl⟩
        have hzip : zs[pre.length]? = some ((z1, z2), bb) := by
          rw [← HZ.out, List.getElem?_zip_eq_some, List.getElem?_map, hze]
          exact ⟨rfl, by rw [← hbb, hLB]; rfl⟩
        have Hbb := Lib.hid hbb
        have Hn := Lib.hid (pre_next (x := ((i1, i2), xb)) Hpre.out hzip)
        clear hze hzm hLB hbb hzip hlt
        have hk0 : (0 : Int) ≤ (pre.length : Int) := by omega
        have hkn : (pre.length : Int) < (OL.length : Int) := by omega
        have hd : decide (OL.length ≤ pre.length) = false := by simp; omega
        have hk1000 : (pre.length : Int) ≤ 1000 := by omega
        have HC : AllCells W.drew [(⟨w12.heap.size, 0, none⟩, .int .i64 (pre.length : Int)), (⟨N, 0, none⟩, .slice (some ⟨b5, o5, none⟩) OL.length c5), (⟨Bx, 0, none⟩, .int .i64 i1), (⟨Bx, 1, none⟩, .int .i64 i2), (⟨b5, o5 + pre.length * 2, none⟩, .int .i64 z1), (⟨b5, o5 + pre.length * 2 + 1, none⟩, .int .i64 z2), (⟨X, 0, none⟩, .slice A F.length c), (⟨X, 1, none⟩, .slice B P.length d), (⟨X, 2, none⟩, .slice C K.length f), (⟨w.heap.size, 0, none⟩, .slice Gp gn gc)] := ⟨c2, cN, e0, e1, g1, g2, x0, x1, x2, cG, trivial⟩
        have HBx := Lib.hid hBx
        have KF1 : ∀ (V1 : World) (v : Value), Below W.heap.size W V1 → Hid (KF (FoN w12) W (V1.setCell ⟨w12.heap.size, 0, none⟩ v)) := fun V1 v hb => (KF.below (foN_ok w12) hb).trans (fun j cs e m hj hf => ⟨Below.heap_setCell V1 _ _ j hf, hf⟩)
        have KF1' := Lib.hid KF1
        clear c2 cN e0 e1 g1 g2 x0 x1 x2 cG hBx KF1
        have br := S15.out.br.blk.cell 0
        have fr := S15.out.br.blk.frozen 0
        simp only [List.getElem?_toArray, List.getElem?_cons_zero] at br
        have lr := S15.out.br.blk.lt
        cases hq : ideq i1 i2 z1 z2
        · have Hq := Lib.hid (ideq_false.1 hq)
          gi_wp2
          refine region_free_round _ [0, 1, 2, 3, 4, 5, 6, 7, 8, 9, 10, 11, 12, 13, 14, 15, 16] 3 (by rintro ⟨_, _, h⟩; exact h) (by kernel_rfl) (by kernel_rfl) (by kernel_rfl) (by kernel_rfl) (by kernel_rfl) (by kernel_rfl) (fun _ _ _ _ _ h => h) HC ?_
          intro hne hu
          simp only [AllCells] at hu
          simp only [pick, List.take_succ_cons, List.take_zero, List.drop_succ_cons, List.drop_zero, List.cons_append, List.nil_append]
          repeat (go_big_quiet_step (fail))
          refine wpQuiet_nil ?_
          clear hne hu
          refine anyN_oneL 17 (by kernel_rfl) ?_
          simp only [List.take_succ_cons, List.take_zero, List.drop_succ_cons, List.drop_zero]
          go_wp2_with fail
          refine And.intro (fun _ => HC) ?_
          refine anyN_more [18, 19] 0 (by kernel_rfl) (by kernel_rfl) (by kernel_rfl) (by kernel_rfl) (fun _ _ _ _ _ h => h) HC ?_
          intro hne hu
          simp only [AllCells] at hu
          simp only [pick, List.take_succ_cons, List.take_zero, List.drop_succ_cons, List.drop_zero, List.cons_append, List.nil_append]
          repeat (go_big_quiet_step (fail))
          refine wpQuiet_nil ?_
          clear hne hu
          refine ⟨by kernel_rfl, ?_⟩
          gi_wp2
          refine ⟨((KeepsOthers.setCell _ _ _).trans (KeepsOthers.drew _)).from _, fun hp => ?_⟩
          have := Hn.out.1 hp
          simp only [Prod.mk.injEq] at this
          exact Hq.out ⟨this.1.1, this.1.2⟩
        · obtain ⟨rfl, rfl⟩ := ideq_true.1 hq
          have dW : Below W.heap.size W W.drew := (Below.refl _ W).drew
          have HL := Lib.hid (live55_c A B C Gp F.length c P.length d K.length f gn gc F P K gl i1 i2 W.drew own8 own8 0 (S15.out.next dW).rs (S15.out.next dW).ig rfl rfl hg'.out (by omega) (by omega) (by omega))
          rw [Hbb.out] at HL
          clear dW
          cases hxb : (xb != bb)
          · have hbx : xb = bb := by have := hxb; simp at this; exact this
            subst hbx
            have Hp := Lib.hid (Hn.out.2 rfl)
            clear br fr lr
            gi_wp2
            refine region_free_round _ [0, 1, 2, 3, 4, 5, 6, 7, 8, 9, 10, 11, 12, 13, 14, 15, 16] 3 (by rintro ⟨_, _, h⟩; exact h) (by kernel_rfl) (by kernel_rfl) (by kernel_rfl) (by kernel_rfl) (by kernel_rfl) (by kernel_rfl) (fun _ _ _ _ _ h => h) HC ?_
            intro hne hu
            simp only [AllCells] at hu
            simp only [pick, List.take_succ_cons, List.take_zero, List.drop_succ_cons, List.drop_zero, List.cons_append, List.nil_append]
            repeat (go_big_quiet_step (fail))
            refine wpQuiet_nil ?_
            clear hne hu
            refine anyN_oneL 17 (by kernel_rfl) ?_
            simp only [List.take_succ_cons, List.take_zero, List.drop_succ_cons, List.drop_zero]
            go_wp2_with fail
            refine HL.out.mono ?_
            rintro e W1 ⟨rfl, hb1⟩
            have HC1 := AllCells.below HC hb1
            have hbW : Below W.heap.size W W1 := Below.comp ((Below.refl _ W).drew) hb1
            have NI1 := Lib.hid (HI.out.next hbW)
            have HBW := Lib.hid hbW
            have c2 := NI1.out.bn.cell 0
            have f2 := NI1.out.bn.frozen 0
            have l2 := NI1.out.bn.lt
            simp only [List.getElem?_toArray, List.getElem?_cons_zero] at c2
            clear hb1 hbW HC
            go_wp2_with fail
            refine And.intro (fun _ => HC1) ?_
            refine anyN_more [18, 19] 0 (by kernel_rfl) (by kernel_rfl) (by kernel_rfl) (by kernel_rfl) (fun _ _ _ _ _ h => h) HC1 ?_
            intro hne hu
            simp only [AllCells] at hu
            simp only [pick, List.take_succ_cons, List.take_zero, List.drop_succ_cons, List.drop_zero, List.cons_append, List.nil_append]
            repeat (go_big_quiet_step (fail))
            refine wpQuiet_nil ?_
            clear hne hu
            refine ⟨by kernel_rfl, ?_⟩
            gi_wp2
            exact ⟨((keeps_below HBW.out).trans (KeepsOthers.setCell _ _ _)).from _, (KF1'.out _ _ HBW.out).out, NI1.out.step Hp.out⟩
          · have hbb' : bb = !xb := by cases bb <;> cases xb <;> simp at hxb <;> rfl
            have Hne : Hid (xb ≠ bb) := by rw [hbb']; cases xb <;> simp [Hid]
            have hbt : (xb != !xb) = true := by cases xb <;> rfl
            have hbt2 : (xb == !xb) = false := by cases xb <;> rfl
            subst hbb'
            clear br fr lr
            gi_wp2
            refine region_free_round _ [0, 1, 2, 3, 4, 5, 6, 7, 8, 9, 10, 11, 12, 13, 14, 15, 16] 3 (by rintro ⟨_, _, h⟩; exact h) (by kernel_rfl) (by kernel_rfl) (by kernel_rfl) (by kernel_rfl) (by kernel_rfl) (by kernel_rfl) (fun _ _ _ _ _ h => h) HC ?_
            intro hne hu
            simp only [AllCells] at hu
            simp only [pick, List.take_succ_cons, List.take_zero, List.drop_succ_cons, List.drop_zero, List.cons_append, List.nil_append]
            repeat (go_big_quiet_step (fail))
            refine wpQuiet_nil ?_
            clear hne hu
            refine anyN_oneL 17 (by kernel_rfl) ?_
            simp only [List.take_succ_cons, List.take_zero, List.drop_succ_cons, List.drop_zero]
            go_wp2_with fail
            refine HL.out.mono ?_
            rintro e W1 ⟨rfl, hb1⟩
            have HC1 := AllCells.below HC hb1
            have hbW : Below W.heap.size W W1 := Below.comp ((Below.refl _ W).drew) hb1
            have HBW := Lib.hid hbW
            have S16 := Lib.hid (S15.out.next hbW)
            have br := S16.out.br.blk.cell 0
            have fr := S16.out.br.blk.frozen 0
            simp only [List.getElem?_toArray, List.getElem?_cons_zero] at br
            have lr := S16.out.br.blk.lt
            clear hb1 hbW HC
            go_wp2_with fail
            refine And.intro (fun _ => HC1) ?_
            refine anyN_more [18, 19] 0 (by kernel_rfl) (by kernel_rfl) (by kernel_rfl) (by kernel_rfl) (fun _ _ _ _ _ h => h) HC1 ?_
            intro hne hu
            simp only [AllCells] at hu
            simp only [pick, List.take_succ_cons, List.take_zero, List.drop_succ_cons, List.drop_zero, List.cons_append, List.nil_append]
            repeat (go_big_quiet_step (fail))
            refine wpQuiet_nil ?_
            clear hne hu
            refine ⟨by kernel_rfl, ?_⟩
            gi_wp2
            refine ⟨((keeps_below HBW.out).trans (KeepsOthers.setCell _ _ _)).from _, fun hp => ?_⟩
            have := Hn.out.1 hp
            simp only [Prod.mk.injEq] at this
            exact Hne.out this.2
      case done =>
        rintro D ys W hD hys hI hK
        rw [hys, HZ.out] at hI
        clear hys
        have hT := HT.out
        subst hT
        have S15 := Lib.hid (S12.out.next hI.below)
        have BN15 := Lib.hid (BN12.out.next hI.below)
        have c2 := hI.bn.cell 0
        rw [hzl] at c2
        have cN := BN15.out.blk.cell 0
        have br := S15.out.br.blk.cell 0
        have fr := S15.out.br.blk.frozen 0
        simp only [List.getElem?_toArray, List.getElem?_cons_zero] at br cN c2
        have lr := S15.out.br.blk.lt
        have hll : ((OL.length : Int) == (OL.length : Int)) = true := by simp
        have HI := Lib.hid hI
        have HK := Lib.hid hK
        clear hI hK
        dsimp only
        go_wp2_with fail
        have hK' : (W.setCell ⟨R, 0, none⟩ (.bool true)).heap[D]? = some (.deferred (some [])) := (KeepsOthers.setCell W ⟨R, 0, none⟩ (.bool true)).same D _ HK.out rfl
        refine ⟨by simp, .inl ⟨_, _, rfl, run_takeDeferred hK', ?_⟩⟩
        have hc5 := cell_kept (show (W.setCell ⟨R, 0, none⟩ (.bool true)).cell? ⟨R, 0, none⟩ = some (.bool true) from World.cell?_setCell_same' W ⟨R, 0, none⟩ (.bool true) (by rw [br]; rfl)) (grownBy_putObj' _ D (.deferred none)) (fun r e => by cases e; exact ⟨_, hK', rfl⟩)
        refine ⟨.bool true, ?_, rfl, (S15.out.clean.below.setCell (p := ⟨R, 0, none⟩) HRle.out _).trans (belowK_b (w := w) (Nat.le_refl _) _ D _ _ (by have := S12.out.clean.below.size; omega) hK' rfl rfl)⟩
        simp [results, Try.f13, go_sem, hc5]
      case stop =>
        rintro D c pre W _ h1 h2 _
        exact absurd (HZ.out ▸ h1) h2
end Go.Proofs.Ytgmlhpkhecbkoaa
namespace Go.Proofs.Ytgmlhpkhecbkoaa
open Go.RowKit Go.ChangeShapes Go.WideShapes Go.ChangeAt Go.Joins Go.Deep


set_option maxRecDepth 100000 in
set_option maxHeartbeats 4000000 in
theorem plays36_far (A0 D0 Gp : Option Addr) (n0 c0 m d0 gn gc : Nat) (w : World) (h : 60 < n0 ∨ 60 < m ∨ 60 < gn) :
    Calls Try.prog 13 #[.slice A0 n0 c0, .slice D0 m d0, .slice Gp gn gc] w fun e w' => e = .returned (.bool true) ∧ Below w.heap.size w w' := by
  have bV : Below w.heap.size w ((w.alloc (.cells #[.slice Gp gn gc] 22)).alloc (.cells #[.bool false] 4)) := ((Below.refl _ w).alloc (Nat.le_refl _) _).alloc (by simp) _
  have K0 := Lib.hid bV
  have BG : Hid (Box ((w.alloc (.cells #[.slice Gp gn gc] 22)).alloc (.cells #[.bool false] 4)) (fun _ => 0) w.heap.size 22 #[.slice Gp gn gc]) := ⟨(Blk.new w 22 _).alloc _, rfl⟩
  have BR : Hid (Box ((w.alloc (.cells #[.slice Gp gn gc] 22)).alloc (.cells #[.bool false] 4)) (fun _ => 0) (w.heap.size + 1) 4 #[.bool false]) := ⟨by have := Blk.new (w.alloc (.cells #[.slice Gp gn gc] 22)) 4 #[.bool false]; simpa using this, rfl⟩
  clear bV
  have H := Lib.hid h
  clear h
  have hc : (60 : Int) < (n0 : Int) ∨ (¬ (60 : Int) < (n0 : Int) ∧ (60 : Int) < (m : Int)) ∨ (¬ (60 : Int) < (n0 : Int) ∧ ¬ (60 : Int) < (m : Int) ∧ (60 : Int) < (gn : Int)) := by have := H.out; omega
  clear H
  rcases hc with q1 | ⟨q1, q2⟩ | ⟨q1, q2, q3⟩
  all_goals
    go_enter Try.func13, Try.ntmps13
    go_wp2_with fail
    generalize (w.alloc (.cells #[.slice Gp gn gc] 22)).alloc (.cells #[.bool false] 4) = V at *
    refine (awake24_c _).mono ?_
    rintro e w1 ⟨rfl, hB⟩
    have K1 := Lib.hid (Below.comp K0.out hB)
    have BG1 := Lib.hid (BG.out.next hB)
    have BR1 := Lib.hid (BR.out.next hB)
    have cg := BG1.out.blk.cell 0
    have lg := BG1.out.blk.lt
    simp only [List.getElem?_toArray, List.getElem?_cons_zero] at cg
    clear hB
    go_wp2_with fail
    refine (awake24_c _).mono ?_
    rintro e w2 ⟨rfl, hB⟩
    have K2 := Lib.hid (Below.comp K1.out hB)
    have BR2 := Lib.hid (BR1.out.next hB)
    have cr := BR2.out.blk.cell 0
    have fr := BR2.out.blk.frozen 0
    have lr := BR2.out.blk.lt
    simp only [List.getElem?_toArray, List.getElem?_cons_zero] at cr
    clear hB cg lg
    go_wp2_with fail
    have cr2 := World.cell?_setCell_same' w2 ⟨w.heap.size + 1, 0, none⟩ (.bool true) (by rw [cr]; rfl)
    refine bodyPost_ret (v := .bool true) (by simp [results, Try.f13, go_sem, cr2]) rfl ⟨rfl, K2.out.setCell (p := ⟨w.heap.size + 1, 0, none⟩) (by simp) _⟩

theorem plays36_any (A0 D0 Gp : Option Addr) (n0 c0 m d0 gn gc : Nat) (ids0 : List Id) (ps : List ActD) (gl : List Id) (w : World) (hR : IdsR w (fun _ => 0) 0 A0 ids0) (hn : ids0.length = n0) (hD : ManyR actCells 5 w (fun _ => 0) 0 D0 ps) (hm : ps.length = m) (hG : IdsR w (fun _ => 0) 0 Gp gl) (hg : gl.length = gn) :
    Calls Try.prog 13 #[.slice A0 n0 c0, .slice D0 m d0, .slice Gp gn gc] w fun e w' => e = .returned (.bool true) ∧ Below w.heap.size w w' := by
  by_cases h1 : n0 ≤ 60
  · by_cases h2 : m ≤ 60
    · by_cases h3 : gn ≤ 60
      · exact plays_few A0 D0 Gp n0 c0 m d0 gn gc ids0 ps gl w hR hn hD hm hG hg h1 h2 h3
      · exact plays36_far A0 D0 Gp n0 c0 m d0 gn gc w (.inr (.inr (by omega)))
    · exact plays36_far A0 D0 Gp n0 c0 m d0 gn gc w (.inr (.inl (by omega)))
  · exact plays36_far A0 D0 Gp n0 c0 m d0 gn gc w (.inl (by omega))
set_option maxRecDepth 100000 in
theorem seqcPlays_lifted (os : Os) (started : os.Started) (H : Type) (enc : TypeId × Value → H) :
    ReturnsInHanded {} Try.checked os 13 .any (Rows.seqcPlaysSpec.pre6 enc Try.prog Try.f13 Rows.seqcPlaysRow.domain false) (Rows.seqcPlaysSpec.post enc Try.prog Try.f13 false true false false) := by
  refine returnsInHanded_of_change (C := Try.checked) Try.own started (by kernel_rfl) Try.func13
    (ChangeSpec.witness6 (enc := enc) (C := Try.checked) false ⟨#[], #[.slice none 0 0, .slice none 0 0, .slice none 0 0], []⟩ 8 (by kernel_rfl) (by kernel_rfl) (by kernel_rfl) (by kernel_rfl)) ?_
  intro W base args ds gs before hval0 hW _ _
  have hval : ∀ (j : Nat) t v, Try.f13.params[j]? = some t → args[j]? = some v → Value.okWide Try.prog W .any base t v := hval0
  have hW' := hW
  obtain ⟨p, q, hA0, hV, rfl, hfz, hnd⟩ := hW
  have hA : DataW.TrodAll enc Try.prog W 0 (fun _ => true) true Try.f13.params.toList args.toList ds p := hA0
  rw [Try.params13] at hA hval
  obtain ⟨v0, v1, v2, d0, d1, d2, p0, p1, p2, rfl, rfl, rfl, h0, h1, h2⟩ := trodAll_three hA
  obtain ⟨rfl, rfl⟩ := trodVars_none hV
  clear hA0 hval0
  simp only [List.append_nil] at hW'
  have hlt : ∀ x ∈ p0 ++ p1 ++ p2, x.block < W.heap.size := fun x hx => by simpa using hW'.lt x hx
  obtain ⟨A0, n0, c0, l0, rfl, hn0, hm0, hR0, hg0⟩ := open_ids (hval 0 22 v0 rfl rfl) h0
  obtain ⟨A1, n1, c1, l1, rfl, hn1, hm1, hR1, hg1⟩ := open_acts (hval 1 77 v1 rfl rfl) h1
  obtain ⟨A2, n2, c2, l2, rfl, hn2, hm2, hR2, hg2⟩ := open_ids (hval 2 22 v2 rfl rfl) h2
  refine (plays36_any A0 A1 A2 n0 c0 n1 c1 n2 c2 l0 l1 l2 W hR0 hn0 hR1 hn1 hR2 hn2).mono fun e W' ⟨he, hnx⟩ => ?_
  subst he
  refine ⟨_, rfl, _, _, _, [], p0 ++ p1 ++ p2, [], hW', ?_, ?_, rfl, hnx.frame _, fun h => by cases h⟩
  · exact trodAll_mk1 (shut_bool Try.underlying4 true)
  · rw [List.append_assoc]
    exact trodAll_mk3 (Below.trod Try.laidOut (by kernel_rfl) (of_decide_eq_true (by kernel_rfl)) h0 hnx (fun x hx => hlt x (by simp [hx]))) (Below.trod Try.laidOut (by kernel_rfl) (of_decide_eq_true (by kernel_rfl)) h1 hnx (fun x hx => hlt x (by simp [hx]))) (Below.trod Try.laidOut (by kernel_rfl) (of_decide_eq_true (by kernel_rfl)) h2 hnx (fun x hx => hlt x (by simp [hx])))

theorem seqcPlays_holds : Rows.SeqcPlaysSaid :=
  OpenClaim.holds_of_wide 13 Try.f13 rfl rfl rfl rfl rfl rfl rfl ⟨rfl, rfl, rfl, rfl, rfl⟩ rfl rfl rfl rfl rfl (by kernel_rfl) Try.func13 (by kernel_rfl)
    (of_decide_eq_true (by kernel_rfl)) (by unfold Func.isWrapper; first | (rw [if_pos (by decide +kernel)]; kernel_rfl) | (rw [if_neg (by decide +kernel)]; exact ⟨rfl, rfl⟩))
    (fun os started H enc _ => seqcPlays_lifted os started H enc)
end Go.Proofs.Ytgmlhpkhecbkoaa
