/-
  The order of a shared axis, plainly: one id more stands somewhere, and changes no other. No condition.
  The order of a shared axis, plainly: it doesn't depend on the order of the insertions; where one more stands. No condition.
  (*Shared).order. Condition: the shared axis lies in memory as ShAt says.
-/
import Derived.Test.YtgmlhpkhecbkoaaS8
namespace Go.Proofs.Ytgmlhpkhecbkoaa

def dfs (puts : List (Id × Id)) : Nat → Id → List Id
  | 0, _ => []
  | n + 1, z => flat (dfs puts n) (kids puts z)
def deep (puts : List (Id × Id)) : Nat → Id → Prop
  | 0, z => kids puts z = []
  | n + 1, z => ∀ c ∈ kids puts z, deep puts n c
theorem deep_more (puts : List (Id × Id)) : ∀ (n : Nat) (z : Id), deep puts n z → deep puts (n + 1) z
  | 0, z, h => fun c hc => by rw [show kids puts z = [] from h] at hc; cases hc
  | n + 1, z, h => fun c hc => deep_more puts n c (h c hc)
theorem deep_le (puts : List (Id × Id)) {n m : Nat} (h : n ≤ m) (z : Id) (hd : deep puts n z) : deep puts m z := by
  induction h with
  | refl => exact hd
  | step _ ih => exact deep_more puts _ z ih
theorem deep_of {first : List Id} {puts : List (Id × Id)} (hw : Wf first puts) : ∀ (m : Nat) (z : Id), (∀ (j : Nat) c, puts[j]? = some (z, c) → puts.length - j ≤ m) → deep puts m z
  | 0, z, h => by
    show kids puts z = []
    cases hk : kids puts z with
    | nil => rfl
    | cons c r =>
      have hc : c ∈ kids puts z := by rw [hk]; simp
      rw [mem_kids] at hc
      obtain ⟨j, hj⟩ := List.mem_iff_getElem?.1 hc
      have := h j c hj
      have := (List.getElem?_eq_some_iff.1 hj).1
      omega
  | m + 1, z, h => fun c hc => by
    rw [mem_kids] at hc
    obtain ⟨j, hj⟩ := List.mem_iff_getElem?.1 hc
    refine deep_of hw m c (fun j' d hj' => ?_)
    have h1 := h j c hj
    have hjl := (List.getElem?_eq_some_iff.1 hj).1
    have hcm : c ∈ puts.map Prod.snd := List.mem_map.2 ⟨_, hc, rfl⟩
    rcases hw.beh j' (c, d) hj' with h0 | h0 | h0
    · have h0' : c = (0, 0) := h0
      rw [h0'] at hcm
      exact absurd hcm hw.pnz
    · exact absurd h0 (hw.dis c hcm)
    · have h0' : c ∈ (puts.take j').map Prod.snd := h0
      obtain ⟨i, hi⟩ := List.mem_iff_getElem?.1 h0'
      have hil := (List.getElem?_eq_some_iff.1 hi).1
      simp at hil
      have hi2 : (puts.map Prod.snd)[i]? = some c := by
        rw [List.map_take, List.getElem?_take, if_pos (by omega)] at hi
        exact hi
      have hj2 : (puts.map Prod.snd)[j]? = some c := by rw [List.getElem?_map, hj]; rfl
      have hij : i = j := by
        have h5 := hw.pnd
        have h6 := (List.getElem?_eq_some_iff.1 hi2).1
        exact (List.getElem?_inj h6 h5).1 (hi2.trans hj2.symm)
      omega
theorem deep_all {first : List Id} {puts : List (Id × Id)} (hw : Wf first puts) (z : Id) : deep puts 1000 z := by
  refine deep_le puts (n := puts.length) (by have := hw.len; omega) z (deep_of hw _ z (fun j c _ => by omega))
/-- All ids in their order. -/
def orderL (first : List Id) (puts : List (Id × Id)) : List Id := dfs puts 1001 (0, 0) ++ flat (dfs puts 1001) first

theorem mem_flat {D : Id → List Id} {K : List Id} {x : Id} : x ∈ flat D K ↔ ∃ c ∈ K, x = c ∨ x ∈ D c := by
  unfold flat
  simp [List.mem_flatMap]
theorem flat_append (D : Id → List Id) (a b : List Id) : flat D (a ++ b) = flat D a ++ flat D b := by unfold flat; rw [List.flatMap_append]
theorem flat_congr {D E : Id → List Id} {K : List Id} (h : ∀ c ∈ K, D c = E c) : flat D K = flat E K := by
  induction K with
  | nil => rfl
  | cons c K ih =>
    unfold flat at *
    simp only [List.flatMap_cons]
    rw [h c (by simp), ih (fun d hd => h d (by simp [hd]))]

section
variable {puts : List (Id × Id)} {b z : Id}
/-- Away from where the new one hangs nothing changes. -/
theorem dfs_same : ∀ (n : Nat) (x : Id), x ≠ b → b ∉ dfs puts n x → dfs (puts ++ [(b, z)]) n x = dfs puts n x
  | 0, _, _, _ => rfl
  | n + 1, x, hx, hb => by
    simp only [dfs]
    rw [kids_snoc, if_neg (fun e => hx e.symm)]
    refine flat_congr (fun c hc => dfs_same n c (fun e => hb ?_) (fun e => hb ?_))
    · simp only [dfs]; rw [mem_flat]; exact ⟨c, hc, .inl e.symm⟩
    · simp only [dfs]; rw [mem_flat]; exact ⟨c, hc, .inr e⟩
theorem dfs_leaf (hz : kids puts z = []) (hbz : b ≠ z) (n : Nat) : dfs (puts ++ [(b, z)]) n z = [] := by
  cases n with
  | zero => rfl
  | succ n => simp only [dfs]; rw [kids_snoc, if_neg hbz, hz]; rfl
/-- z stands in l' behind b and some others, right behind it if s is zero; the rest is l. -/
def Spot (s : Nat) (b z : Id) (l l' : List Id) : Prop := ∃ A B C, l = A ++ b :: (B ++ C) ∧ l' = A ++ b :: (B ++ z :: C) ∧ (s = 0 → B = [])
theorem Spot.mid {s : Nat} {l l' : List Id} (h : Spot s b z l l') (a c : List Id) : Spot s b z (a ++ l ++ c) (a ++ l' ++ c) := by
  obtain ⟨A, B, C, rfl, rfl, h⟩ := h
  exact ⟨a ++ A, B, C ++ c, by simp, by simp, h⟩
theorem flat_cons (D : Id → List Id) (c : Id) (K : List Id) : flat D (c :: K) = c :: D c ++ flat D K := by unfold flat; simp
theorem flat_spot {s n : Nat} (IH : ∀ c, deep (puts ++ [(b, z)]) n c → (c :: dfs puts (n + 1) c).Nodup → b ∈ c :: dfs puts (n + 1) c → Spot s b z (c :: dfs puts (n + 1) c) (c :: dfs (puts ++ [(b, z)]) (n + 1) c)) (K : List Id)
    (hd : ∀ c ∈ K, deep (puts ++ [(b, z)]) n c) (hn : (flat (dfs puts (n + 1)) K).Nodup) (hb : b ∈ flat (dfs puts (n + 1)) K) : Spot s b z (flat (dfs puts (n + 1)) K) (flat (dfs (puts ++ [(b, z)]) (n + 1)) K) := by
  rw [mem_flat] at hb
  obtain ⟨c, hc, hbc⟩ := hb
  obtain ⟨A, B, hAB⟩ := List.append_of_mem hc
  have hdc := hd c hc
  subst hAB
  have hfl : ∀ D : Id → List Id, flat D (A ++ c :: B) = flat D A ++ (c :: D c) ++ flat D B := fun D => by rw [flat_append, flat_cons]; simp
  rw [hfl] at hn
  have hn3 : (c :: dfs puts (n + 1) c).Nodup := (List.nodup_append.1 (List.nodup_append.1 hn).1).2.1
  have hbin : b ∈ c :: dfs puts (n + 1) c := by
    rcases hbc with e | e
    · rw [e]; simp
    · simp [e]
  have hA : b ∉ flat (dfs puts (n + 1)) A := fun h => (List.nodup_append.1 (List.nodup_append.1 hn).1).2.2 b h b hbin rfl
  have hB : b ∉ flat (dfs puts (n + 1)) B := fun h => (List.nodup_append.1 hn).2.2 b (List.mem_append.2 (.inr hbin)) b h rfl
  have hAs : flat (dfs (puts ++ [(b, z)]) (n + 1)) A = flat (dfs puts (n + 1)) A := flat_congr (fun d hd => dfs_same (n + 1) d (fun e => hA (mem_flat.2 ⟨d, hd, .inl e.symm⟩)) (fun e => hA (mem_flat.2 ⟨d, hd, .inr e⟩)))
  have hBs : flat (dfs (puts ++ [(b, z)]) (n + 1)) B = flat (dfs puts (n + 1)) B := flat_congr (fun d hd => dfs_same (n + 1) d (fun e => hB (mem_flat.2 ⟨d, hd, .inl e.symm⟩)) (fun e => hB (mem_flat.2 ⟨d, hd, .inr e⟩)))
  rw [hfl, hfl, hAs, hBs]
  exact (IH c hdc hn3 hbin).mid _ _
theorem dfs_spot (hz : kids puts z = []) (hbz : b ≠ z) : ∀ (n : Nat) (x : Id), deep (puts ++ [(b, z)]) n x → (x :: dfs puts (n + 1) x).Nodup → b ∈ x :: dfs puts (n + 1) x → Spot (scan z (kids puts b)) b z (x :: dfs puts (n + 1) x) (x :: dfs (puts ++ [(b, z)]) (n + 1) x)
  | n, x, hd, hn, hx => by
    by_cases hxb : x = b
    · subst hxb
      have hk : kids (puts ++ [(x, z)]) x = hangAdd (kids puts x) z := by rw [kids_snoc, if_pos rfl]
      cases n with
      | zero =>
        have : kids (puts ++ [(x, z)]) x = [] := hd
        rw [hk] at this
        have := congrArg List.length this
        rw [length_hangAdd] at this
        simp at this
      | succ n =>
        have hself : x ∉ dfs puts (n + 2) x := (List.nodup_cons.1 hn).1
        have hcs : ∀ c ∈ kids puts x, dfs (puts ++ [(x, z)]) (n + 1) c = dfs puts (n + 1) c := by
          intro c hc
          refine dfs_same (n + 1) c (fun e => hself ?_) (fun e => hself ?_)
          · rw [dfs, mem_flat]; exact ⟨c, hc, .inl e.symm⟩
          · rw [dfs, mem_flat]; exact ⟨c, hc, .inr e⟩
        have e1 : dfs (puts ++ [(x, z)]) (n + 2) x = flat (dfs (puts ++ [(x, z)]) (n + 1)) (hangAdd (kids puts x) z) := by rw [← hk]; rfl
        have e2 : dfs puts (n + 2) x = flat (dfs puts (n + 1)) ((kids puts x).take (scan z (kids puts x))) ++ flat (dfs puts (n + 1)) ((kids puts x).drop (scan z (kids puts x))) := by rw [← flat_append, List.take_append_drop]; rfl
        have f1 : flat (dfs (puts ++ [(x, z)]) (n + 1)) ((kids puts x).take (scan z (kids puts x))) = flat (dfs puts (n + 1)) ((kids puts x).take (scan z (kids puts x))) := flat_congr (fun c hc => hcs c (List.mem_of_mem_take hc))
        have f2 : flat (dfs (puts ++ [(x, z)]) (n + 1)) ((kids puts x).drop (scan z (kids puts x))) = flat (dfs puts (n + 1)) ((kids puts x).drop (scan z (kids puts x))) := flat_congr (fun c hc => hcs c (List.mem_of_mem_drop hc))
        have f3 : flat (dfs (puts ++ [(x, z)]) (n + 1)) [z] = [z] := by unfold flat; simp [dfs_leaf hz hbz]
        refine ⟨[], _, _, by rw [e2]; rfl, ?_, fun h0 => ?_⟩
        · rw [e1]
          unfold hangAdd putAt
          rw [flat_append, flat_append, f1, f2, f3]
          simp
        · rw [h0]; rfl
    · have hb : b ∈ dfs puts (n + 1) x := by
        rcases List.mem_cons.1 hx with e | e
        · exact absurd e.symm hxb
        · exact e
      have hk : kids (puts ++ [(b, z)]) x = kids puts x := by rw [kids_snoc, if_neg (fun e => hxb e.symm)]
      cases n with
      | zero =>
        have : kids (puts ++ [(b, z)]) x = [] := hd
        rw [hk] at this
        simp only [dfs] at hb
        rw [this] at hb
        simp [flat] at hb
      | succ n =>
        have := flat_spot (n := n) (fun c h1 h2 h3 => dfs_spot hz hbz n c h1 h2 h3) (kids puts x) (fun c hc => hd c (by rw [hk]; exact hc)) (List.nodup_cons.1 hn).2 hb
        have := this.mid [x] []
        have e1 : dfs (puts ++ [(b, z)]) (n + 2) x = flat (dfs (puts ++ [(b, z)]) (n + 1)) (kids puts x) := by rw [← hk]; rfl
        have e2 : dfs puts (n + 2) x = flat (dfs puts (n + 1)) (kids puts x) := rfl
        rw [e1, e2]
        simpa using this
end
/-- The order, behind the zero id. -/
theorem orderL_flat (first : List Id) (puts : List (Id × Id)) : (0, 0) :: orderL first puts = flat (dfs puts 1001) ((0, 0) :: first) := by
  rw [flat_cons]; rfl
theorem Wf.init {first : List Id} {puts : List (Id × Id)} {p : Id × Id} (h : Wf first (puts ++ [p])) : Wf first puts := by
  refine ⟨h.nd, h.nz, by have := h.len; simp at this; omega, ?_, fun hh => h.pnz (by simp at hh ⊢; exact .inl hh), fun z hz => h.dis z (by simp at hz ⊢; exact .inl hz), fun i q hq => ?_⟩
  · have := h.pnd
    rw [List.map_append, List.nodup_append] at this
    exact this.1
  · have hi := (List.getElem?_eq_some_iff.1 hq).1
    have := h.beh i q (by rw [List.getElem?_append_left hi]; exact hq)
    rwa [List.take_append_of_le_length (by omega)] at this
theorem dfs_nil (n : Nat) (z : Id) : dfs [] n z = [] := by
  cases n with
  | zero => rfl
  | succ n => rfl
theorem orderL_nil (first : List Id) : orderL first [] = first := by
  unfold orderL
  rw [dfs_nil, flat_congr (E := fun _ => []) (fun c _ => dfs_nil _ _)]
  unfold flat
  simp
theorem order_spot {first : List Id} {puts : List (Id × Id)} {b z : Id} (hw : Wf first (puts ++ [(b, z)])) (hn : ((0, 0) :: orderL first puts).Nodup) (hm : ∀ x, x ∈ orderL first puts ↔ has first puts x = true) :
    Spot (scan z (kids puts b)) b z ((0, 0) :: orderL first puts) ((0, 0) :: orderL first (puts ++ [(b, z)])) := by
  have hl := hw.beh puts.length (b, z) (by simp)
  have hz0 : z ≠ (0, 0) := fun e => hw.pnz (by simp [e])
  have hzf : z ∉ first := hw.dis z (by simp)
  have hzp : z ∉ puts.map Prod.snd := by
    have := hw.pnd
    rw [List.map_append, List.nodup_append] at this
    exact fun h => this.2.2 z h z (by simp) rfl
  rw [List.take_left' rfl] at hl
  have hbz : b ≠ z := by
    rintro rfl
    rcases hl with h | h | h
    · exact hz0 h
    · exact hzf h
    · exact hzp h
  have hk : kids puts z = [] := by
    cases hk : kids puts z with
    | nil => rfl
    | cons c r =>
      have hc : c ∈ kids puts z := by rw [hk]; simp
      rw [mem_kids] at hc
      obtain ⟨j, hj⟩ := List.mem_iff_getElem?.1 hc
      rcases hw.init.beh j _ hj with h | h | h
      · exact absurd h hz0
      · exact absurd h hzf
      · obtain ⟨p, hp1, hp2⟩ := List.mem_map.1 h
        exact absurd (List.mem_map.2 ⟨p, List.mem_of_mem_take hp1, hp2⟩) hzp
  rw [orderL_flat, orderL_flat]
  refine flat_spot (n := 1000) (fun c h1 h2 h3 => dfs_spot hk hbz 1000 c h1 h2 h3) _ (fun c _ => deep_all hw c) (by rw [← orderL_flat]; exact hn) ?_
  rw [← orderL_flat]
  rcases hl with h | h | h
  · have : b = (0, 0) := h
    simp [this]
  · exact List.mem_cons.2 (.inr ((hm b).2 (has_iff.2 (.inl h))))
  · exact List.mem_cons.2 (.inr ((hm b).2 (has_iff.2 (.inr h))))
/-- What stands in the order: each id that is there, once. -/
theorem order_facts {first : List Id} {puts : List (Id × Id)} (hw : Wf first puts) : ((0, 0) :: orderL first puts).Nodup ∧ (∀ x, x ∈ orderL first puts ↔ has first puts x = true) ∧ (orderL first puts).length = first.length + puts.length := by
  refine snocInd (P := fun puts => Wf first puts → ((0, 0) :: orderL first puts).Nodup ∧ (∀ x, x ∈ orderL first puts ↔ has first puts x = true) ∧ (orderL first puts).length = first.length + puts.length) (fun hw => ?_) (fun puts p ih hw => ?_) puts hw
  · rw [orderL_nil]
    exact ⟨List.nodup_cons.2 ⟨hw.nz, hw.nd⟩, fun x => by rw [has_iff]; simp, by simp⟩
  · obtain ⟨b, z⟩ := p
    obtain ⟨h1, h2, h3⟩ := ih hw.init
    obtain ⟨A, B, C, e1, e2, _⟩ := order_spot hw h1 h2
    have hz0 : z ≠ (0, 0) := fun e => hw.pnz (by simp [e])
    have hz : z ∉ (0, 0) :: orderL first puts := by
      rw [List.mem_cons, h2, has_iff]
      rintro (h | h | h)
      · exact hz0 h
      · exact hw.dis z (by simp) h
      · have := hw.pnd
        rw [List.map_append, List.nodup_append] at this
        exact this.2.2 z h z (by simp) rfl
    have hp : ((0, 0) :: orderL first (puts ++ [(b, z)])).Perm (z :: (0, 0) :: orderL first puts) := by
      rw [e1, e2]
      have : A ++ b :: (B ++ z :: C) = (A ++ b :: B) ++ z :: C := by simp
      rw [this]
      refine List.perm_middle.trans ?_
      simp
    refine ⟨hp.nodup_iff.2 (List.nodup_cons.2 ⟨hz, h1⟩), fun x => ?_, ?_⟩
    · have hm := hp.mem_iff (a := x)
      have hp' : ((0, 0) :: orderL first (puts ++ [(b, z)])).Nodup := hp.nodup_iff.2 (List.nodup_cons.2 ⟨hz, h1⟩)
      simp only [List.mem_cons] at hm
      rw [h2, has_iff] at hm
      rw [has_iff, List.map_append]
      simp only [List.map_cons, List.map_nil, List.mem_append, List.mem_singleton]
      by_cases hx : x = (0, 0)
      · subst hx
        have n1 := (List.nodup_cons.1 hp').1
        constructor
        · intro h; exact absurd h n1
        · rintro (h | h | h)
          · exact absurd h hw.nz
          · exact absurd h hw.init.pnz
          · exact absurd h.symm hz0
      · constructor
        · intro h
          rcases hm.1 (.inr h) with h' | h' | h' | h'
          · exact .inr (.inr h')
          · exact absurd h' hx
          · exact .inl h'
          · exact .inr (.inl h')
        · intro h
          have : x = (0, 0) ∨ x ∈ orderL first (puts ++ [(b, z)]) := hm.2 (by
            rcases h with h | h | h
            · exact .inr (.inr (.inl h))
            · exact .inr (.inr (.inr h))
            · exact .inl h)
          exact this.resolve_left hx
    · have := hp.length_eq
      simp at this
      simp
      omega
end Go.Proofs.Ytgmlhpkhecbkoaa
namespace Go.Proofs.Ytgmlhpkhecbkoaa

/-- Sorted lists with the same members are the same. -/
theorem sorted_eq : ∀ (l m : List Id), l.Pairwise (fun x y => bef y x = true) → m.Pairwise (fun x y => bef y x = true) → (∀ x, x ∈ l ↔ x ∈ m) → l = m
  | [], [], _, _, _ => rfl
  | [], y :: m, _, _, h => by have := (h y).2 (by simp); cases this
  | x :: l, [], _, _, h => by have := (h x).1 (by simp); cases this
  | x :: l, y :: m, hl, hm, h => by
    have hl' := List.pairwise_cons.1 hl
    have hm' := List.pairwise_cons.1 hm
    have hxy : x = y := by
      rcases List.mem_cons.1 ((h x).1 (by simp)) with e | e
      · exact e
      · rcases List.mem_cons.1 ((h y).2 (by simp)) with e' | e'
        · exact e'.symm
        · have a := bef_trans (hm'.1 x e) (hl'.1 y e')
          rw [bef_irr] at a
          cases a
    subst hxy
    congr 1
    refine sorted_eq l m hl'.2 hm'.2 (fun z => ?_)
    constructor
    · intro hz
      rcases List.mem_cons.1 ((h z).1 (by simp [hz])) with e | e
      · subst e
        have := hl'.1 z hz
        rw [bef_irr] at this
        cases this
      · exact e
    · intro hz
      rcases List.mem_cons.1 ((h z).2 (by simp [hz])) with e | e
      · subst e
        have := hm'.1 z hz
        rw [bef_irr] at this
        cases this
      · exact e
theorem hangAdd_sorted (z : Id) : ∀ (l : List Id), l.Pairwise (fun x y => bef y x = true) → z ∉ l → (hangAdd l z).Pairwise (fun x y => bef y x = true)
  | [], _, _ => by simp [hangAdd, putAt, scan]
  | x :: l, hl, hz => by
    have hl' := List.pairwise_cons.1 hl
    unfold hangAdd putAt
    simp only [scan]
    split
    · rename_i hb
      have ih := hangAdd_sorted z l hl'.2 (fun h => hz (by simp [h]))
      have e : List.take (scan z l + 1) (x :: l) ++ [z] ++ List.drop (scan z l + 1) (x :: l) = x :: hangAdd l z := by simp [hangAdd, putAt]
      rw [e, List.pairwise_cons]
      refine ⟨fun y hy => ?_, ih⟩
      rcases (mem_hangAdd l z y).1 hy with h | h
      · subst h; exact hb
      · exact hl'.1 y h
    · rename_i hb
      have e : List.take 0 (x :: l) ++ [z] ++ List.drop 0 (x :: l) = z :: x :: l := by simp
      rw [e, List.pairwise_cons]
      refine ⟨fun y hy => ?_, hl⟩
      have hxz : bef x z = true := by
        rcases bef_total (a := x) (b := z) (fun h => hz (by simp [h])) with h | h
        · exact h
        · exact absurd h hb
      rcases List.mem_cons.1 hy with h | h
      · subst h; exact hxz
      · exact bef_trans (hl'.1 y h) hxz
theorem kids_sorted {first : List Id} {puts : List (Id × Id)} (hw : Wf first puts) (k : Id) : (kids puts k).Pairwise (fun x y => bef y x = true) := by
  refine snocInd (P := fun puts => Wf first puts → (kids puts k).Pairwise (fun x y => bef y x = true)) (fun _ => by rw [kids_nil]; exact List.Pairwise.nil) (fun puts p ih hw => ?_) puts hw
  rw [kids_snoc]
  split
  · refine hangAdd_sorted _ _ (ih hw.init) (fun h => ?_)
    rw [mem_kids] at h
    have := hw.pnd
    rw [List.map_append, List.nodup_append] at this
    exact this.2.2 p.2 (List.mem_map.2 ⟨_, h, rfl⟩) p.2 (by simp) rfl
  · exact ih hw.init
theorem dfs_kids {a b : List (Id × Id)} (h : ∀ k, kids a k = kids b k) : ∀ (n : Nat) (z : Id), dfs a n z = dfs b n z
  | 0, _ => rfl
  | n + 1, z => by simp only [dfs]; rw [h z]; exact flat_congr (fun c _ => dfs_kids h n c)
/-- The same insertions, the same order. -/
theorem order_set {first : List Id} {a b : List (Id × Id)} (ha : Wf first a) (hb : Wf first b) (h : ∀ p, p ∈ a ↔ p ∈ b) : orderL first a = orderL first b := by
  have hk : ∀ k, kids a k = kids b k := fun k => sorted_eq _ _ (kids_sorted ha k) (kids_sorted hb k) (fun x => by rw [mem_kids, mem_kids, h])
  unfold orderL
  rw [dfs_kids hk, flat_congr (fun c _ => dfs_kids hk 1001 c)]

/-- One pass of put. -/
def pass (first : List Id) (puts l : List (Id × Id)) : List (Id × Id) := l.foldl (fun ps p => insPuts first ps p.1 p.2) puts
def passes (first : List Id) (l : List (Id × Id)) : Nat → List (Id × Id) → List (Id × Id)
  | 0, ps => ps
  | n + 1, ps => passes first l n (pass first ps l)
theorem passes_succ (first : List Id) (l : List (Id × Id)) : ∀ (n : Nat) (ps : List (Id × Id)), passes first l (n + 1) ps = pass first (passes first l n ps) l
  | 0, _ => rfl
  | n + 1, ps => passes_succ first l n (pass first ps l)
def putL (first : List Id) (l : List (Id × Id)) : List (Id × Id) := passes first l l.length []
section
variable {first : List Id}
theorem Wf.pass {puts : List (Id × Id)} (h : Wf first puts) (l : List (Id × Id)) : Wf first (pass first puts l) := by
  unfold Go.Proofs.Ytgmlhpkhecbkoaa.pass
  induction l generalizing puts with
  | nil => exact h
  | cons p l ih => exact ih (h.put p.1 p.2)
theorem Wf.passes {puts : List (Id × Id)} (h : Wf first puts) (l : List (Id × Id)) (n : Nat) : Wf first (passes first l n puts) := by
  induction n generalizing puts with
  | zero => exact h
  | succ n ih => exact ih (h.pass l)
theorem insPuts_pre (ps : List (Id × Id)) (b z : Id) : ∃ r, insPuts first ps b z = ps ++ r ∧ ∀ p ∈ r, p = (b, z) := by
  unfold insPuts
  split
  · exact ⟨[(b, z)], rfl, by simp⟩
  · exact ⟨[], by simp, by simp⟩
theorem pass_pre (l : List (Id × Id)) : ∀ ps, ∃ r, pass first ps l = ps ++ r ∧ ∀ p ∈ r, p ∈ l := by
  induction l with
  | nil => exact fun ps => ⟨[], by simp [pass], by simp⟩
  | cons q l ih =>
    intro ps
    obtain ⟨r1, e1, h1⟩ := insPuts_pre (first := first) ps q.1 q.2
    obtain ⟨r2, e2, h2⟩ := ih (insPuts first ps q.1 q.2)
    refine ⟨r1 ++ r2, ?_, ?_⟩
    · have : pass first ps (q :: l) = pass first (insPuts first ps q.1 q.2) l := rfl
      rw [this, e2, e1, List.append_assoc]
    · intro p hp
      rcases List.mem_append.1 hp with h | h
      · rw [h1 p h]; simp
      · exact List.mem_cons.2 (.inr (h2 p h))
theorem passes_sub (l : List (Id × Id)) (n : Nat) : ∀ p ∈ passes first l n [], p ∈ l := by
  induction n with
  | zero => intro p hp; cases hp
  | succ n ih =>
    intro p hp
    rw [passes_succ] at hp
    obtain ⟨r, e, h⟩ := pass_pre (first := first) l (passes first l n [])
    rw [e] at hp
    rcases List.mem_append.1 hp with h' | h'
    · exact ih p h'
    · exact h p h'
/-- No more can be inserted. -/
def Closed (first : List Id) (l ps : List (Id × Id)) : Prop := ∀ p ∈ l, insS first ps p.1 p.2 ≠ 0
theorem pass_grow (l : List (Id × Id)) : ∀ ps, (∃ p ∈ l, insS first ps p.1 p.2 = 0) → ps.length < (pass first ps l).length := by
  induction l with
  | nil => rintro ps ⟨p, hp, _⟩; cases hp
  | cons q l ih =>
    intro ps ⟨p, hp, h0⟩
    have e : pass first ps (q :: l) = pass first (insPuts first ps q.1 q.2) l := rfl
    rw [e]
    by_cases hq : insS first ps q.1 q.2 = 0
    · obtain ⟨r, e2, _⟩ := pass_pre (first := first) l (insPuts first ps q.1 q.2)
      rw [e2]
      unfold insPuts
      rw [if_pos hq]
      simp
    · have : insPuts first ps q.1 q.2 = ps := by unfold insPuts; rw [if_neg hq]
      rw [this]
      rcases List.mem_cons.1 hp with h | h
      · subst h; exact absurd h0 hq
      · exact ih ps ⟨p, h, h0⟩
theorem pass_closed (l : List (Id × Id)) : ∀ (m : List (Id × Id)) ps, (∀ p ∈ m, p ∈ l) → Closed first l ps → pass first ps m = ps := by
  intro m
  induction m with
  | nil => intro ps _ _; rfl
  | cons q m ih =>
    intro ps hm hc
    have e : pass first ps (q :: m) = pass first (insPuts first ps q.1 q.2) m := rfl
    have : insPuts first ps q.1 q.2 = ps := by unfold insPuts; rw [if_neg (hc q (hm q (by simp)))]
    rw [e, this]
    exact ih ps (fun p hp => hm p (by simp [hp])) hc
/-- So many passes do. -/
theorem passes_done (l : List (Id × Id)) (hn : (l.map Prod.snd).Nodup) (h0 : Wf first []) (n : Nat) : Closed first l (passes first l n []) ∨ n ≤ (passes first l n []).length := by
  induction n with
  | zero => exact .inr (Nat.zero_le _)
  | succ n ih =>
    rw [passes_succ]
    by_cases hc : Closed first l (passes first l n [])
    · left
      rw [pass_closed l l _ (fun _ h => h) hc]
      exact hc
    · right
      have h1 := ih.resolve_left hc
      have : ∃ p ∈ l, insS first (passes first l n []) p.1 p.2 = 0 := by
        refine Classical.byContradiction (fun h => hc (fun p hp e => h ⟨p, hp, e⟩))
      have := pass_grow l _ this
      omega
theorem mem_of_full {α : Type} [DecidableEq α] : ∀ (a l : List α), a.Nodup → (∀ x ∈ a, x ∈ l) → l.length ≤ a.length → ∀ x ∈ l, x ∈ a
  | [], l, _, _, h, x, hx => by cases l with
    | nil => cases hx
    | cons y l => simp at h
  | y :: a, l, hn, hs, h, x, hx => by
    have hn' := List.nodup_cons.1 hn
    have hy := hs y (by simp)
    by_cases hxy : x = y
    · simp [hxy]
    · have hlen := List.length_erase_of_mem hy
      have := mem_of_full a (l.erase y) hn'.2 (fun z hz => (List.mem_erase_of_ne (fun e => hn'.1 (by rw [← e]; exact hz))).2 (hs z (by simp [hz]))) (by simp at h; omega) x ((List.mem_erase_of_ne hxy).2 hx)
      simp [this]
theorem nodup_of_map {α β : Type} (f : α → β) (l : List α) (h : (l.map f).Nodup) : l.Nodup := by
  induction l with
  | nil => simp
  | cons x l ih =>
    have h' := List.nodup_cons.1 (by simpa using h : (f x :: l.map f).Nodup)
    exact List.nodup_cons.2 ⟨fun hx => h'.1 (List.mem_map.2 ⟨x, hx, rfl⟩), ih h'.2⟩
theorem putL_closed (l : List (Id × Id)) (hn : (l.map Prod.snd).Nodup) (h0 : Wf first []) : Closed first l (putL first l) := by
  unfold putL
  rcases passes_done (first := first) l hn h0 l.length with h | h
  · exact h
  · intro p hp e
    have hw := h0.passes l l.length
    have := mem_of_full _ l (nodup_of_map Prod.snd _ hw.pnd) (passes_sub l l.length) h p hp
    obtain ⟨_, h2, _⟩ := insS_ok e
    have : has first (passes first l l.length []) p.2 = true := has_iff.2 (.inr (List.mem_map.2 ⟨p, this, rfl⟩))
    rw [h2] at this
    cases this
/-- What can be inserted at all. -/
inductive Reach (first : List Id) (l : List (Id × Id)) : Id × Id → Prop
  | zero (z : Id) : ((0, 0), z) ∈ l → z ≠ (0, 0) → Reach first l ((0, 0), z)
  | first (b z : Id) : (b, z) ∈ l → z ≠ (0, 0) → b ∈ first → Reach first l (b, z)
  | next (a b z : Id) : (b, z) ∈ l → z ≠ (0, 0) → Reach first l (a, b) → Reach first l (b, z)
theorem Reach.mem {l : List (Id × Id)} {p : Id × Id} (h : Reach first l p) : p ∈ l ∧ p.2 ≠ (0, 0) := by
  cases h with
  | zero _ h1 h2 => exact ⟨h1, h2⟩
  | first _ _ h1 h2 _ => exact ⟨h1, h2⟩
  | next _ _ _ h1 h2 _ => exact ⟨h1, h2⟩
theorem Reach.mono {l m : List (Id × Id)} (hs : ∀ p ∈ l, p ∈ m) {p : Id × Id} (h : Reach first l p) : Reach first m p := by
  induction h with
  | zero z h1 h2 => exact .zero z (hs _ h1) h2
  | first b z h1 h2 h3 => exact .first b z (hs _ h1) h2 h3
  | next a b z h1 h2 _ ih => exact .next a b z (hs _ h1) h2 ih
theorem reach_of {l puts : List (Id × Id)} (hw : Wf first puts) (hs : ∀ p ∈ puts, p ∈ l) : ∀ p ∈ puts, Reach first l p := by
  refine snocInd (P := fun puts => Wf first puts → (∀ p ∈ puts, p ∈ l) → ∀ p ∈ puts, Reach first l p) (fun _ _ p hp => by cases hp) (fun puts q ih hw hs p hp => ?_) puts hw hs
  have ih' := ih hw.init (fun p hp => hs p (by simp [hp]))
  rcases List.mem_append.1 hp with h | h
  · exact ih' p h
  · have : p = q := by simpa using h
    subst this
    obtain ⟨b, z⟩ := p
    have hz : z ≠ (0, 0) := fun e => hw.pnz (by simp [e])
    have hb := hw.beh puts.length (b, z) (by simp)
    rw [List.take_left' rfl] at hb
    have hl := hs (b, z) (by simp)
    rcases hb with h | h | h
    · have : b = (0, 0) := h
      subst this
      exact .zero z hl hz
    · exact .first b z hl hz h
    · obtain ⟨⟨a, b'⟩, h1, h2⟩ := List.mem_map.1 h
      have : b' = b := h2
      subst this
      exact .next a b' z hl hz (ih' _ h1)
theorem nodup_snd {l : List (Id × Id)} (hn : (l.map Prod.snd).Nodup) {p q : Id × Id} (hp : p ∈ l) (hq : q ∈ l) (h : p.2 = q.2) : p = q := by
  induction l with
  | nil => cases hp
  | cons x l ih =>
    have hn' := List.nodup_cons.1 (by simpa using hn : (x.2 :: l.map Prod.snd).Nodup)
    rcases List.mem_cons.1 hp with e1 | e1 <;> rcases List.mem_cons.1 hq with e2 | e2
    · rw [e1, e2]
    · subst e1; exact absurd (List.mem_map.2 ⟨q, e2, h.symm⟩) hn'.1
    · subst e2; exact absurd (List.mem_map.2 ⟨p, e1, h⟩) hn'.1
    · exact ih hn'.2 e1 e2
theorem closed_reach {l ps : List (Id × Id)} (hn : (l.map Prod.snd).Nodup) (hf : ∀ p ∈ l, p.2 ∉ first) (hs : ∀ p ∈ ps, p ∈ l) (hc : Closed first l ps) (hlen : first.length + ps.length < 1000) {p : Id × Id} (h : Reach first l p) : p ∈ ps := by
  have fin : ∀ b z, (b, z) ∈ l → z ≠ (0, 0) → (b = (0, 0) ∨ has first ps b = true) → (b, z) ∈ ps := by
    intro b z hl hz hb
    refine Classical.byContradiction (fun hx => hc _ hl ?_)
    unfold insS
    rw [if_neg hz, if_neg, if_neg, if_neg (by omega)]
    · rintro ⟨h1, h2⟩
      rcases hb with h | h
      · exact h1 h
      · rw [h2] at h; cases h
    · rw [has_iff]
      rintro (h | h)
      · exact hf _ hl h
      · obtain ⟨q, hq1, hq2⟩ := List.mem_map.1 h
        have : q = (b, z) := nodup_snd hn (hs q hq1) hl hq2
        subst this
        exact hx hq1
  induction h with
  | zero z h1 h2 => exact fin _ z h1 h2 (.inl rfl)
  | first b z h1 h2 h3 => exact fin b z h1 h2 (.inr (has_iff.2 (.inl h3)))
  | next a b z h1 h2 _ ih => exact fin b z h1 h2 (.inr (has_iff.2 (.inr (List.mem_map.2 ⟨_, ih, rfl⟩))))
/-- In whatever order they come, the same stand in the same order. -/
theorem putL_order {l m : List (Id × Id)} (h0 : Wf first []) (hl : (l.map Prod.snd).Nodup) (hm : (m.map Prod.snd).Nodup) (hf : ∀ p ∈ l, p.2 ∉ first) (hlm : ∀ p, p ∈ l ↔ p ∈ m) (h1 : first.length + l.length < 1000) (h2 : first.length + m.length < 1000) : orderL first (putL first l) = orderL first (putL first m) := by
  have key : ∀ (l : List (Id × Id)), (l.map Prod.snd).Nodup → (∀ p ∈ l, p.2 ∉ first) → first.length + l.length < 1000 → ∀ p, p ∈ putL first l ↔ Reach first l p := by
    intro l hn hf hlen p
    have hs := passes_sub (first := first) l l.length
    have hw := h0.passes l l.length
    have hle : (passes first l l.length []).length ≤ l.length := by
      have := List.Nodup.length_le_of_subset (nodup_of_map Prod.snd _ hw.pnd) hs
      exact this
    constructor
    · exact fun h => reach_of hw hs p h
    · exact fun h => closed_reach hn hf hs (putL_closed l hn h0) (by omega) h
  refine order_set (h0.passes l _) (h0.passes m _) (fun p => ?_)
  rw [key l hl hf h1, key m hm (fun p hp => hf p ((hlm p).2 hp)) h2]
  exact ⟨fun h => h.mono (fun p hp => (hlm p).1 hp), fun h => h.mono (fun p hp => (hlm p).2 hp)⟩
theorem Wf.snoc {puts : List (Id × Id)} {b z : Id} (hw : Wf first puts) (h : insS first puts b z = 0) : Wf first (puts ++ [(b, z)]) := by
  have := hw.put b z
  unfold insPuts at this
  rwa [if_pos h] at this
/-- One more changes nothing about the others. -/
theorem order_more {puts : List (Id × Id)} {b z : Id} (hw : Wf first puts) (h : insS first puts b z = 0) : (orderL first (puts ++ [(b, z)])).filter (fun x => decide (x ≠ z)) = orderL first puts := by
  obtain ⟨h1, h2, _⟩ := order_facts hw
  obtain ⟨A, B, C, e1, e2, _⟩ := order_spot (hw.snoc h) h1 h2
  obtain ⟨hz0, hz, _⟩ := insS_ok h
  have hzn : z ∉ (0, 0) :: orderL first puts := by
    rw [List.mem_cons, h2, hz]
    simp [hz0]
  have hall : ∀ x ∈ (0, 0) :: orderL first puts, decide (x ≠ z) = true := fun x hx => by simp; exact fun e => hzn (by rw [← e]; exact hx)
  have e3 : ((0, 0) :: orderL first (puts ++ [(b, z)])).filter (fun x => decide (x ≠ z)) = (0, 0) :: orderL first puts := by
    rw [e1] at hall
    have f : ∀ X : List Id, (∀ x ∈ X, decide (x ≠ z) = true) → X.filter (fun x => decide (x ≠ z)) = X := fun X hX => List.filter_eq_self.2 hX
    rw [e1, e2, show A ++ b :: (B ++ z :: C) = (A ++ b :: B) ++ (z :: C) by simp, List.filter_append, List.filter_cons, if_neg (by simp), f (A ++ b :: B) (fun x hx => hall x (by have : x ∈ (A ++ b :: B) ++ C := List.mem_append.2 (.inl hx); simpa using this)), f C (fun x hx => hall x (by simp [hx]))]
    simp
  rw [List.filter_cons, if_pos (by simpa using fun e => hz0 e.symm)] at e3
  exact (List.cons.inj e3).2
theorem scan_zero (z : Id) (l : List Id) (h : ∀ x ∈ l, bef z x = false) : scan z l = 0 := by
  cases l with
  | nil => rfl
  | cons x l => simp [scan, h x (by simp)]
/-- The greatest stands right behind its left neighbour. -/
theorem order_near {puts : List (Id × Id)} {b z : Id} (hw : Wf first puts) (h : insS first puts b z = 0) (hg : ∀ x ∈ orderL first puts, x.2 < z.2) (k : Nat) (hk : ((0, 0) :: orderL first puts)[k]? = some b) : orderL first (puts ++ [(b, z)]) = (orderL first puts).take k ++ z :: (orderL first puts).drop k := by
  obtain ⟨h1, h2, _⟩ := order_facts hw
  obtain ⟨A, B, C, e1, e2, h3⟩ := order_spot (hw.snoc h) h1 h2
  have hs : scan z (kids puts b) = 0 := by
    refine scan_zero _ _ (fun x hx => ?_)
    rw [mem_kids] at hx
    have := hg x ((h2 x).2 (has_iff.2 (.inr (List.mem_map.2 ⟨_, hx, rfl⟩))))
    cases hb : bef z x with
    | false => rfl
    | true => rw [bef_iff] at hb; omega
  have hB := h3 hs
  subst hB
  have hkA : k = A.length := by
    have hlt := (List.getElem?_eq_some_iff.1 hk).1
    refine (List.getElem?_inj hlt h1).1 (hk.trans ?_)
    rw [e1]
    simp
  have t1 : ((0, 0) :: orderL first puts).take (k + 1) = A ++ [b] := by
    rw [e1, hkA, show A ++ b :: ([] ++ C) = (A ++ [b]) ++ C by simp, List.take_left' (by simp)]
  have t2 : ((0, 0) :: orderL first puts).drop (k + 1) = C := by
    rw [e1, hkA, show A ++ b :: ([] ++ C) = (A ++ [b]) ++ C by simp]
    rw [List.drop_left' (by simp)]
  rw [List.take_succ_cons] at t1
  rw [List.drop_succ_cons] at t2
  have : (0, 0) :: orderL first (puts ++ [(b, z)]) = (0, 0) :: ((orderL first puts).take k ++ z :: (orderL first puts).drop k) := by
    have e3 : (0, 0) :: ((orderL first puts).take k ++ z :: C) = ((0, 0) :: (orderL first puts).take k) ++ z :: C := rfl
    rw [e2, t2, e3, t1]
    simp
  exact (List.cons.inj this).2
end
end Go.Proofs.Ytgmlhpkhecbkoaa
namespace Go.Proofs.Ytgmlhpkhecbkoaa
open Go.RowKit

@[go_sem] theorem Try.stf (w : World) (a : Addr) (m : Mode) (fn : Fn) (first captured : Array Value) : (store a (.func fn first captured) m).run Try.prog w = stored Try.prog w a (.func fn first captured) m := run_store Try.prog w a _ m rfl

theorem walk_all {t u B1 B3 B4 q : Nat} {first : List Id} {puts cuts : List (Id × Id)} (htu : t ≠ u) : ∀ (n : Nat) (z : Id), deep puts n z → WalkC t u B1 B3 B4 q first puts cuts z (dfs puts (n + 1) z)
  | 0, z, h => by
    refine walk_step t u B1 B3 B4 q first puts cuts z (dfs puts 0) htu (fun c hc => ?_)
    rw [show kids puts z = [] from h] at hc
    cases hc
  | n + 1, z, h => walk_step t u B1 B3 B4 q first puts cuts z (dfs puts (n + 1)) htu (fun c hc => walk_all htu n c (h c hc))

theorem make22 (n : Nat) (hn : n ≤ 1000000) (w : World) : ∃ cs : Array Value, cs.size = n * 2 ∧ (Instr.makeSlice 22 (.int .i64 0) (.int .i64 (n : Int))).run Try.prog w = .ok (.slice (some ⟨w.heap.size, 0, none⟩) 0 n) (w.alloc (.cells cs 24)) := by
  obtain ⟨i0, hi, hz0, hz1, hz2⟩ := info_parts Try.info24
  have h := run_make (P := Try.prog) w 22 24 i0 _ Try.underlying22 hi hz0 .i64 .i64 0 n (by omega) (by omega) (by rw [hz2]; omega) (by omega)
  rw [h]
  refine ⟨_, ?_, by simp only [Int.toNat_natCast, Int.toNat_zero]; rfl⟩
  simp [size_madeCells, hz1]
theorem Row.made {w : World} {own : Tags} {u n : Nat} {cs : Array Value} {g : Nat} (hn : n ≤ 1000000) (hs : cs.size = n * 2) (hb : Blk w g 24 cs) (ho : own g = u) : Row w own u 24 2 (.slice (some ⟨g, 0, none⟩) 0 n) 0 (idCells []) :=
  ⟨⟨rfl, .inr ⟨g, n, cs, rfl, Nat.zero_le _, hb, Nat.zero_le _, by unfold maxLen; omega, hs, by simp [idCells]⟩⟩, fun k hk => by have : g = k := by simpa [Value.ownBlock] using hk
                                                                                                                                 rw [← this]; exact ho⟩

set_option maxRecDepth 100000 in
set_option maxHeartbeats 4000000 in
theorem order_c (w : World) (own : Tags) (t u p : Nat) (first : List Id) (puts cuts : List (Id × Id)) (h : ShAt w own t p first puts cuts) (hf : Fresh own w) (htu : t ≠ u) :
    Calls Try.prog 77 #[.pointer (some ⟨p, 0, none⟩)] w (ListP w own u (orderL first puts)) := by
  have hwf := h.wf
  obtain ⟨_, _, vF, s, hh, vD, b, hl, a⟩ := id h
  have c0 := a.blk.cell 0
  have c1 := a.blk.cell 1
  have hp := a.blk.lt
  have hs := a.mS.lt
  have hn : (thereOf first puts).length ≤ 1000 := by have := hwf.len; simp [thereOf]; omega
  have hln := fun (o : Obj) => MapIs.len (w := w.alloc o) (a.mS.kept (Below.heap_alloc w o s hs)) Try.underlying95 3
  obtain ⟨N, hN⟩ : ∃ N, (thereOf first puts).length = N := ⟨_, rfl⟩
  rw [hN] at hln hn
  obtain ⟨cs, hcs, hmk⟩ := make22 N (by omega) (w.alloc (.cells #[.pointer (some ⟨p, 0, none⟩)] 39))
  have hcs' := Lib.hid hcs
  simp only [World.size_alloc] at hmk
  clear hN hcs
  simp at c0 c1
  have H := Lib.hid h
  have HF := Lib.hid hf
  have Htu := Lib.hid htu
  have rF := Lib.hid a.rF
  have hpt := Lib.hid a.tag
  clear a h hf htu
  go_enter Try.func77, Try.ntmps77
  go_wp2_with fail
  have ST : Hid (∃ own1, Tr own u w own1 ((((w.alloc (.cells #[.pointer (some ⟨p, 0, none⟩)] 39)).alloc (.cells cs 24)).alloc (.cells #[.slice (some ⟨w.heap.size + 1, 0, none⟩) 0 N] 22)).alloc (.cells #[walkv w.heap.size (w.heap.size + 1 + 1) (w.heap.size + 1 + 1 + 1)] 124)) ∧ OS t u w.heap.size (w.heap.size + 1 + 1) (w.heap.size + 1 + 1 + 1) p first puts cuts [] own1 (.slice (some ⟨w.heap.size + 1, 0, none⟩) 0 N) ((((w.alloc (.cells #[.pointer (some ⟨p, 0, none⟩)] 39)).alloc (.cells cs 24)).alloc (.cells #[.slice (some ⟨w.heap.size + 1, 0, none⟩) 0 N] 22)).alloc (.cells #[walkv w.heap.size (w.heap.size + 1 + 1) (w.heap.size + 1 + 1 + 1)] 124))) := by
    have b0 := (((Blk.new w 39 #[.pointer (some ⟨p, 0, none⟩)]).alloc (.cells cs 24)).alloc (.cells #[.slice (some ⟨w.heap.size + 1, 0, none⟩) 0 N] 22)).alloc (.cells #[walkv w.heap.size (w.heap.size + 1 + 1) (w.heap.size + 1 + 1 + 1)] 124)
    have b1 := ((Blk.new (w.alloc (.cells #[.pointer (some ⟨p, 0, none⟩)] 39)) 24 cs).alloc (.cells #[.slice (some ⟨w.heap.size + 1, 0, none⟩) 0 N] 22)).alloc (.cells #[walkv w.heap.size (w.heap.size + 1 + 1) (w.heap.size + 1 + 1 + 1)] 124)
    have b2 := (Blk.new ((w.alloc (.cells #[.pointer (some ⟨p, 0, none⟩)] 39)).alloc (.cells cs 24)) 22 #[.slice (some ⟨w.heap.size + 1, 0, none⟩) 0 N]).alloc (.cells #[walkv w.heap.size (w.heap.size + 1 + 1) (w.heap.size + 1 + 1 + 1)] 124)
    have b3 := Blk.new (((w.alloc (.cells #[.pointer (some ⟨p, 0, none⟩)] 39)).alloc (.cells cs 24)).alloc (.cells #[.slice (some ⟨w.heap.size + 1, 0, none⟩) 0 N] 22)) 124 #[walkv w.heap.size (w.heap.size + 1 + 1) (w.heap.size + 1 + 1 + 1)]
    have bl : Below w.heap.size w ((((w.alloc (.cells #[.pointer (some ⟨p, 0, none⟩)] 39)).alloc (.cells cs 24)).alloc (.cells #[.slice (some ⟨w.heap.size + 1, 0, none⟩) 0 N] 22)).alloc (.cells #[walkv w.heap.size (w.heap.size + 1 + 1) (w.heap.size + 1 + 1 + 1)] 124)) := ((((Below.refl _ _).alloc (Nat.le_refl _) _).alloc (by simp) _).alloc (by simp; omega) _).alloc (by simp; omega) _
    simp only [World.size_alloc] at b1 b2 b3
    have sz : ((((w.alloc (.cells #[.pointer (some ⟨p, 0, none⟩)] 39)).alloc (.cells cs 24)).alloc (.cells #[.slice (some ⟨w.heap.size + 1, 0, none⟩) 0 N] 22)).alloc (.cells #[walkv w.heap.size (w.heap.size + 1 + 1) (w.heap.size + 1 + 1 + 1)] 124)).heap.size = w.heap.size + 4 := by simp
    generalize ((((w.alloc (.cells #[.pointer (some ⟨p, 0, none⟩)] 39)).alloc (.cells cs 24)).alloc (.cells #[.slice (some ⟨w.heap.size + 1, 0, none⟩) 0 N] 22)).alloc (.cells #[walkv w.heap.size (w.heap.size + 1 + 1) (w.heap.size + 1 + 1 + 1)] 124)) = W4 at *
    have tr : Tr own u w (tagAt (tagAt own (w.heap.size + 1) u) (w.heap.size + 1 + 1) u) W4 := (((Tr.refl own u w).below bl).tag (by omega) (by omega) u).tag (by omega) (by omega) u
    exact ⟨_, tr, b0, b2, by simp [tagAt], b3, Row.made (by omega) hcs'.out b1 (by simp [tagAt]), H.out.other tr Htu.out⟩
  obtain ⟨own1, tr1, o1⟩ := ST.out
  have hlen := (order_facts hwf).2.2
  have hwl := hwf.len
  have hle0 : (orderL first puts).length ≤ 1000 := by omega
  have hle1 : (dfs puts 1001 (0, 0)).length ≤ (orderL first puts).length := by unfold orderL; simp
  refine ((walk_all Htu.out 1000 (0, 0) (deep_all hwf _)) [] _ own1 _ o1 (by simp; omega)).mono ?_
  rintro e W5 ⟨rfl, own2, vl, tr2, o2⟩
  have T2 := Lib.hid (tr1.trans tr2)
  have R2 := Lib.hid (rF.out.keep ((tr1.trans tr2).toSame Htu.out))
  rw [List.nil_append] at o2
  have O2 := Lib.hid o2
  have HW := Lib.hid hwf
  have hKl : first.length ≤ 1000 := by omega
  have HL := Lib.hid hle0
  clear ST o2 tr1 o1 tr2 rF hln hmk hcs' hwf hlen hwl hle0 hle1 c1 hs hn
  obtain ⟨L0, hL0⟩ : ∃ L0, dfs puts 1001 (0, 0) = L0 := ⟨_, rfl⟩
  rw [hL0] at O2
  have HL0 := Lib.hid hL0
  clear hL0
  have cb := O2.out.b1.cell 0
  have hB1 := O2.out.b1.lt
  have c0' : W5.cell? ⟨p, 0, none⟩ = some vF := by rw [T2.out.cell hp (by rw [hpt.out]; exact Htu.out)]; exact c0
  have hp' := World.block_lt_of_cell? W5 _ c0'
  obtain ⟨AF, cF, rfl, _⟩ := R2.out.form
  simp only [List.getElem?_toArray, List.getElem?_cons_zero] at cb
  clear c0 hp hpt
  generalize w.heap.size = H0 at *
  have hlen : Hid (L0.length + (flat (dfs puts 1001) first).length ≤ 100000) := by
    have := HL.out
    unfold orderL at this
    rw [HL0.out] at this
    simp at this
    show _ ≤ _
    omega
  go_wp2_with fail
  go_loopw [24] (fun i wr => ∃ (k : Nat) (ow : Tags) (vl : Value), k ≤ first.length ∧ i = .int .i64 k ∧ Tr own2 u W5 ow wr ∧ OS t u H0 (H0 + 1 + 1) (H0 + 1 + 1 + 1) p first puts cuts (L0 ++ flat (dfs puts 1001) (first.take k)) ow vl wr) (fun i _ => first.length - (intOf i).toNat)
  case atStart => exact ⟨0, own2, vl, Nat.zero_le _, rfl, Tr.refl _ _ _, by simpa [flat] using O2.out⟩
  case round =>
    clear O2
    obtain ⟨k, ow, vl1, hk, rfl, tr1, r⟩ := hrel
    by_cases hlt : k < first.length
    · have hrow := R2.out.keep (tr1.toSame Htu.out)
      obtain ⟨bK, oK, hA, _, hbK, hc⟩ := hrow.toIdsR.2 (fun e => by rw [e] at hlt; simp at hlt)
      subst hA
      obtain ⟨g1, g2⟩ := hc k hlt
      have hcm := Lib.hid (walk_all (t := t) (u := u) (B1 := H0) (B3 := H0 + 1 + 1) (B4 := H0 + 1 + 1 + 1) (q := p) (first := first) (cuts := cuts) Htu.out 1000 first[k] (deep_all HW.out _))
      have hft := Lib.hid (flat_take (dfs puts 1001) first k first[k] (List.getElem?_eq_getElem hlt))
      have hfl := Lib.hid (flat_le (dfs puts 1001) first (k + 1))
      clear hc hrow
      generalize first[k] = y at *
      obtain ⟨y1, y2⟩ := y
      dsimp only at g1 g2
      have hk0 : (0 : Int) ≤ (k : Int) := by omega
      have hkn : (k : Int) < (first.length : Int) := by omega
      obtain ⟨AV, cV, rfl, _⟩ := r.row.form
      have hll : Hid ((L0 ++ flat (dfs puts 1001) (first.take k)).length < 100000) := by
        have h1 := hfl.out
        have h0 := hlen.out
        rw [hft.out] at h1
        simp at h1
        show _ < _
        simp
        omega
      have c3 := r.b3.cell 0
      simp only [List.getElem?_toArray, List.getElem?_cons_zero] at c3
      have hB3 := r.b3.lt
      have bl2 : Below wr.heap.size wr ((wr.alloc (.cells #[.int .i64 y1, .int .i64 y2] 24)).alloc (.cells #[.int .i64 y1, .int .i64 y2] 24)) := ((Below.refl _ _).alloc (Nat.le_refl _) _).alloc (by simp) _
      have R2 := Lib.hid (r.next bl2)
      have T2 := Lib.hid (tr1.below bl2)
      have X2 := Lib.hid ((Blk.new wr 24 #[.int .i64 y1, .int .i64 y2]).alloc (.cells #[.int .i64 y1, .int .i64 y2] 24))
      obtain ⟨i0, hi, hz0, hz1, hz2⟩ := info_parts Try.info24
      obtain ⟨LL, hLL⟩ : ∃ LL, L0 ++ flat (dfs puts 1001) (first.take k) = LL := ⟨_, rfl⟩
      rw [hLL] at R2 hll c3
      have HLL := Lib.hid hLL
      have hvo : Hid ((Value.slice AV LL.length cV).ownBlock ≠ some wr.heap.size) := by
        intro e
        rw [hLL] at r
        have := (r.row.1.lt _ e).2
        omega
      clear r bl2 tr1 hLL
      go_wp2_with (at_builtin; refine wpList_append_own_at _ rfl _ _ _ rfl 0 24 i0 _ 2 16 Try.underlying22 hi hz0 hz1 hz2 rfl (by omega) _ _ _ rfl R2.out.row.1 ⟨wr.heap.size + 1, 0, none⟩ 1 1 [.int .i64 y1, .int .i64 y2] rfl rfl (by have := news_new (wr.alloc (.cells #[.int .i64 y1, .int .i64 y2] 24)) (wr.heap.size + 1) (by simp) #[.int .i64 y1, .int .i64 y2] 24; exact this) (by simp [Value.oneCell']) (by have := hll.out; simp only [maxLen]; omega) (by have := hll.out; omega) (Nat.zero_le _) ?_; intro v' w2 hown2 hgrow2 _ hat2; obtain ⟨gN, cN, rfl⟩ := ownsRow_slice hown2 (by omega); obtain ⟨b3', ow2, tr2, o2⟩ := R2.out.add (l' := LL ++ [(y1, y2)]) (g := gN) (c := cN) Htu.out hgrow2 (by rw [List.length_append, List.length_singleton]; simpa [idCells_append, idCells] using hown2) (lies_two hat2 (hown2.lt gN rfl).2); rw [List.length_append, List.length_singleton] at tr2 o2; have f3 := b3'.frozen 0; have d3 := b3'.cell 0; simp only [List.getElem?_toArray, List.getElem?_cons_zero] at d3; have x2 := (X2.out.kept (hgrow2.block wr.heap.size X2.out.lt (fun e => hvo.out e.symm))).far (p := ⟨H0 + 1 + 1, 0, none⟩) (X2.out.ne_type R2.out.b3 (by decide)) (.slice (some ⟨gN, 0, none⟩) (LL.length + 1) cN); have x20 := x2.cell 0; have x21 := x2.cell 1; have e4 := o2.b4.cell 0; unfold walkv at e4; simp only [List.getElem?_toArray, List.getElem?_cons_zero, List.getElem?_cons_succ] at x20 x21 e4; have O2 := Lib.hid o2; have TR2 := Lib.hid tr2; clear hown2 hgrow2 hat2 b3' tr2 o2 x2)
      generalize w2.setCell ⟨H0 + 1 + 1, 0, none⟩ (.slice (some ⟨gN, 0, none⟩) (LL.length + 1) cN) = V2 at *
      have hle2 : Hid ((LL ++ [(y1, y2)]).length + (dfs puts 1001 (y1, y2)).length ≤ 100000) := by
        have h1 := hfl.out
        rw [hft.out] at h1
        have h2 := HLL.out
        have h0 := hlen.out
        show _ ≤ _
        rw [← h2]
        simp at h1 ⊢
        omega
      refine (hcm.out (LL ++ [(y1, y2)]) _ ow2 V2 (by have := O2.out; rw [← List.length_singleton (a := (y1, y2)), ← List.length_append] at this; exact this) hle2.out).mono ?_
      rintro e w3 ⟨rfl, ow3, vl3, tr3, o3⟩
      have T3 := Lib.hid (T2.out.trans (TR2.out.trans tr3))
      have O3 := Lib.hid o3
      clear tr3 o3 x20 x21 e4 f3 d3
      go_wp2_with fail
      go_roundw
      case rel =>
        have fin : OS t u H0 (H0 + 1 + 1) (H0 + 1 + 1 + 1) p first puts cuts (L0 ++ flat (dfs puts 1001) (first.take (k + 1))) ow3 vl3 w3 := by
          have := O3.out
          rw [← HLL.out] at this
          rw [hft.out]
          simpa using this
        first | exact ⟨k + 1, ow3, vl3, by omega, by go_num, T3.out, fin⟩ | exact ⟨k + 1, ow3, by omega, by go_num, T3.out, vl3, fin⟩ | exact ⟨k + 1, by omega, by go_num, ow3, T3.out, vl3, fin⟩
      case measure => simp [intOf]; omega
    · have hkk : k = first.length := by omega
      subst hkk
      have hkn : ¬ ((first.length : Int) < (first.length : Int)) := by omega
      have R := Lib.hid r
      have TT := Lib.hid (T2.out.trans tr1)
      have c3 := r.b3.cell 0
      simp only [List.getElem?_toArray, List.getElem?_cons_zero] at c3
      have hB3 := r.b3.lt
      clear r tr1
      go_wp2_with fail
      go_ret
      have fin : Row wr ow u 24 2 vl1 (orderL first puts).length (idCells (orderL first puts)) := by
        have := R.out.row
        rw [List.take_length] at this
        unfold orderL
        rw [HL0.out]
        exact this
      exact ⟨vl1, ow, rfl, TT.out, fin⟩
end Go.Proofs.Ytgmlhpkhecbkoaa
