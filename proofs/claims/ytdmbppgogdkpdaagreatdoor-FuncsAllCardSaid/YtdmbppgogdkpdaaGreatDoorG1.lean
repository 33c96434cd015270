/-
  counterpaneref16.All: the least name is selected again and again. No condition.
-/
import Derived.Test.YtdmbppgogdkpdaaGreatDoorC7
import Derived.Test.YtdmbppgogdkpdaaGreatDoorG0
namespace Go.Proofs.YtdmbppgogdkpdaaGreatDoor
open Go.RowKit Go.Maps Go.Sort Go.Shelf
theorem wpList_append_src {P : Program} (w : World) {ops : Array Oper} {rest : List Oper} {o : Oper} {a : Act} {Q : Exit → Act → World → Prop} (hgd : o.guard = none) (s x : Operand) (t : TypeId)
    (ho : o.op = .call { callee := .builtin .append, args := #[s, x], argTypes := #[t, t] })
    (base : Nat) (e : TypeId) (i : TypeInfo) (z : Value) (size bytes : Nat) (ht : P.underlying t = some (.slice e)) (hi : P.info? e = some i) (hz : i.zero = some z)
    (hsize : i.size = size) (hby : i.bytes = bytes) (hzs : z.cells.size = size) (hsz : 0 < size)
    (v : Value) (n : Nat) (xs : List Value) (hs : a.eval s = v) (hown : w.ownsRow base e size v n xs)
    (A : Option Addr) (m c : Nat) (news : List Value) (hx : a.eval x = .slice A m c) (hA : A = none → m = 0 ∧ c = 0) (hl : news.length = m * size) (hnews : ∀ ad, A = some ad → ∀ j u, news[j]? = some u → w.cell? (ad.add j) = some u) (h1 : ∀ u ∈ news, u.oneCell' = true)
    (h63 : n + m ≤ maxLen) (hbytes : (n + m) * bytes ≤ 140737488355328) (hbase : base ≤ w.heap.size)
    (h : ∀ v' w', w'.ownsRow base e size v' (n + m) (xs ++ news) → w.grownBy w' v.ownBlock → (v'.ownBlock = v.ownBlock ∨ v'.ownBlock = some w.heap.size) → wpList P ops Q rest (a.put o.dst v') w') :
    wpList P ops Q (o :: rest) a w := by
  cases A with
  | some ad => exact wpList_append_own_at w hgd s x t ho base e i z size bytes ht hi hz hsize hby hzs hsz v n xs hs hown ad m c news hx hl (hnews ad rfl) h1 h63 hbytes hbase (fun v' w' h2 h3 _ h5 => h v' w' h2 h3 h5)
  | none =>
    obtain ⟨rfl, rfl⟩ := hA rfl
    have hn0 : news = [] := by cases news with | nil => rfl | cons _ _ => simp at hl
    subst hn0
    refine wpList_plain hgd fun K hK => ?_
    have hr := run_append_owned_none (P := P) (w := w) base t o.type e i size ht hi v n xs hown
    unfold Oper.wp execOp
    simp only [ho, resolve, invoke, builtin, Sem.run_bind, Sem.run_pure, Result.andThen_ok, List.map_toArray, List.map_cons, List.map_nil, hs, hx, hr]
    exact hK _ _ (h v w (by simpa using hown) ⟨rfl, rfl, rfl, Nat.le_refl _, fun _ _ _ => rfl⟩ (.inl rfl))
theorem ownsRow_shape {w : World} {base : Nat} {e : TypeId} {size : Nat} {v : Value} {n : Nat} {xs : List Value} (h : w.ownsRow base e size v n xs) : ∃ A c, v = .slice A n c ∧ ((A = none ∧ n = 0 ∧ c = 0) ∨ ∃ g, A = some ⟨g, 0, none⟩ ∧ n ≤ c) := by
  rcases h.2 with ⟨hv, rfl⟩ | ⟨g, cap, cur, hv, _, _, h1, _⟩
  · exact ⟨none, 0, hv, .inl ⟨rfl, rfl, rfl⟩⟩
  · exact ⟨_, _, hv, .inr ⟨g, rfl, h1⟩⟩
theorem ownsRow_lower {w : World} {base b' : Nat} {e : TypeId} {size : Nat} {v : Value} {n : Nat} {xs : List Value} (h : w.ownsRow base e size v n xs) (hb : b' ≤ base) : w.ownsRow b' e size v n xs := by
  refine ⟨h.1, ?_⟩
  rcases h.2 with h2 | ⟨g, cap, cur, hv, hbb, hg, h3⟩
  · exact .inl h2
  · exact .inr ⟨g, cap, cur, hv, Nat.le_trans hb hbb, hg, h3⟩
theorem add_at (g k j : Nat) : (⟨g, k, none⟩ : Addr).add j = ⟨g, k + j, none⟩ := by unfold Addr.add; split <;> simp_all
theorem row_at {w : World} {base g n c : Nat} {xs : List Value} (h : w.ownsRow base 9 1 (.slice (some ⟨g, 0, none⟩) n c) n xs) {i : Nat} {u : Value} (hu : xs[i]? = some u) : w.cell? ⟨g, i, none⟩ = some u := by
  have := h.cells (g := g) rfl i u hu
  rw [add_at, Nat.zero_add] at this
  exact this
theorem row_cap {w : World} {base g n c : Nat} {xs : List Value} (h : w.ownsRow base 9 1 (.slice (some ⟨g, 0, none⟩) n c) n xs) : n ≤ c ∧ c ≤ 9223372036854775807 := by
  rcases h.2 with ⟨hv, _⟩ | ⟨g', cap, cur, hv, _, _, h1, h2, _⟩
  · cases hv
  · cases hv
    exact ⟨h1, h2⟩
def slen : Value → Nat
  | .slice _ n _ => n
  | _ => 0
theorem news_six (W : World) : ∀ j u, (namesLazy.map encStr)[j]? = some u → (W.alloc (.cells #[.string ⟨#[73, 70]⟩, .string ⟨#[73, 70, 69, 82, 82, 79, 82]⟩, .string ⟨#[73, 70, 78, 65]⟩, .string ⟨#[67, 72, 79, 79, 83, 69]⟩, .string ⟨#[83, 87, 73, 84, 67, 72]⟩, .string ⟨#[76, 69, 84]⟩] 9)).cell? ((⟨W.heap.size, 0, none⟩ : Addr).add j) = some u :=
  fun j u hj => World.news_of_block (new_lies W _) j u hj
set_option maxRecDepth 100000 in
set_option maxHeartbeats 4000000 in
theorem refAll22 (w : World) : Calls Tryz.prog 22 #[] w fun e w' => ∃ v, e = .returned v ∧ w'.ownsRow w.heap.size 9 1 v 69 (sortedAll.map encStr) ∧ Below w.heap.size w w' := by
  obtain ⟨i0, hi, hz0, hz1, hz2⟩ := info_parts info9
  have HI := Lib.hid hi
  have H0 := Lib.hid hz0
  have H1 := Lib.hid hz1
  have H2 := Lib.hid hz2
  clear hi hz0 hz1 hz2
  go_enter Tryz.func22, Tryz.ntmps22
  go_wp2_with fail
  refine Calls.mono (refNames35r _) ?_
  rintro _ wa ⟨v, rfl, hrow, q⟩
  have HR := Lib.hid (row_below hrow ((Below.refl _ _).alloc (Nat.le_refl _) (.cells #[.string ⟨#[73, 70]⟩, .string ⟨#[73, 70, 69, 82, 82, 79, 82]⟩, .string ⟨#[73, 70, 78, 65]⟩, .string ⟨#[67, 72, 79, 79, 83, 69]⟩, .string ⟨#[83, 87, 73, 84, 67, 72]⟩, .string ⟨#[76, 69, 84]⟩] 9)))
  have HB := Lib.hid (q.alloc q.size (.cells #[.string ⟨#[73, 70]⟩, .string ⟨#[73, 70, 69, 82, 82, 79, 82]⟩, .string ⟨#[73, 70, 78, 65]⟩, .string ⟨#[67, 72, 79, 79, 83, 69]⟩, .string ⟨#[83, 87, 73, 84, 67, 72]⟩, .string ⟨#[76, 69, 84]⟩] 9))
  have HN := Lib.hid (news_six wa)
  clear hrow q
  go_wp2_with (at_builtin; refine wpList_append_own_at _ rfl _ _ 46 rfl w.heap.size 9 i0 (.string ⟨#[]⟩) 1 16 Tryz.underlying46 HI.out H0.out H1.out H2.out rfl (by decide) _ _ _ rfl HR.out ⟨wa.heap.size, 0, none⟩ 6 6 (namesLazy.map encStr) rfl (by decide) HN.out (one_names namesLazy) (by decide) (by decide) HB.out.size ?_; intro v' w' hown hg _ _; go_frame; have HR2 := Lib.hid (show w'.ownsRow w.heap.size 9 1 v' allNames.length (allNames.map encStr) from hown); have HB2 := Lib.hid (HB.out.grown hg HB.out.size (fun j hj => (HR.out.lt j hj).1)); clear HR HB HN hown hg)
  go_loopw [1, 2] (fun lv ov wr => ∃ O L, Hid (Sel O L) ∧ Hid (wr.ownsRow w.heap.size 9 1 lv L.length (L.map encStr)) ∧ Hid (wr.ownsRow w.heap.size 9 1 ov O.length (O.map encStr)) ∧ Hid (∀ g, lv.ownBlock = some g → ov.ownBlock ≠ some g) ∧ Hid (Below w.heap.size w wr)) (fun lv _ _ => slen lv)
  case atStart => exact ⟨[], allNames, Lib.hid Sel.start, HR2, Lib.hid (World.ownsRow_nil _ _ _ _), Lib.hid (fun g _ e => by cases e), HB2⟩
  case round =>
    obtain ⟨O, L, hS, hl, ho, hd, hb⟩ := hrel
    have hlen := hS.out.len
    obtain ⟨n, hn⟩ : ∃ n, L.length = n := ⟨_, rfl⟩
    obtain ⟨m, hm⟩ : ∃ m, O.length = m := ⟨_, rfl⟩
    have HL := Lib.hid hn
    have HO := Lib.hid hm
    have HLR := Lib.hid (show _ from by have := hl.out; rw [hn] at this; exact this)
    have HOR := Lib.hid (show _ from by have := ho.out; rw [hm] at this; exact this)
    rw [hn, hm] at hlen
    have HLen := Lib.hid hlen
    clear hn hm hl ho hlen
    obtain ⟨A, c, rfl, hsh⟩ := ownsRow_shape HLR.out
    by_cases h0 : n = 0
    · subst h0
      clear hsh
      go_wp2_with fail
      go_ret
      have hL : L = [] := List.eq_nil_of_length_eq_zero HL.out
      have hS' := hS.out
      rw [hL] at hS'
      have hO := hS'.done
      have hr := HOR.out
      have hm := HO.out
      rw [hO, sortedAll_len] at hm
      rw [hO, ← hm] at hr
      exact ⟨_, rfl, hr, hb.out⟩
    · obtain ⟨g, rfl, hgc⟩ : ∃ g, A = some ⟨g, 0, none⟩ ∧ n ≤ c := by
        rcases hsh with ⟨_, h, _⟩ | h
        · omega
        · exact h
      clear hsh
      have hcm := (row_cap HLR.out).2
      have hnp : (0 : Int) < (n : Int) := by omega
      have hn63 : n ≤ 9223372036854775807 := by omega
      go_wp2_with fail
      generalize wr = W1 at *
      go_loopw [3, 4] (fun kv iv wr => ∃ k i : Nat, kv = .int .i64 k ∧ iv = .int .i64 i ∧ 1 ≤ i ∧ i ≤ n ∧ k < n ∧ Hid (Least L i k) ∧ Hid (Below W1.heap.size W1 wr)) (fun _ iv _ => n - (intOf iv).toNat)
      case atStart => exact ⟨0, 1, rfl, rfl, Nat.le_refl _, by omega, by omega, Lib.hid (Least.start (by rw [HL.out]; omega)), Lib.hid (Below.refl _ _)⟩
      case round =>
        obtain ⟨k, i, rfl, rfl, hi1, hin, hk, hleast, hb2⟩ := hrel
        have HR2 := Lib.hid (row_below HLR.out hb2.out)
        have hkn : (k : Int) < (n : Int) := by omega
        have hk0 : (0 : Int) ≤ (k : Int) := by omega
        have hi0 : (0 : Int) ≤ (i : Int) := by omega
        by_cases hlt : i < n
        · have hiL : i < L.length := by rw [HL.out]; exact hlt
          have hkL : k < L.length := by rw [HL.out]; exact hk
          have g1 : wr.cell? ⟨g, i, none⟩ = some (.string ⟨L[i].toArray⟩) := row_at HR2.out (i := i) (by rw [List.getElem?_map, List.getElem?_eq_getElem hiL]; rfl)
          have g2 : wr.cell? ⟨g, k, none⟩ = some (.string ⟨L[k].toArray⟩) := row_at HR2.out (i := k) (by rw [List.getElem?_map, List.getElem?_eq_getElem hkL]; rfl)
          have HLE1 := Lib.hid (fun (h : Op.bytesLess L[i] L[k] = false) => hleast.out.keep hiL ((bytesLess_not _ _).1 h))
          have HLE2 := Lib.hid (fun (h : Op.bytesLess L[i] L[k] = true) => hleast.out.turn hiL (List.le_of_lt ((bytesLess_iff _ _).1 h)))
          generalize L[i] = x at *
          generalize L[k] = y at *
          have hin' : (i : Int) < (n : Int) := by omega
          have HC : AllCells wr.drew [(⟨g, i, none⟩, .string ⟨x.toArray⟩), (⟨g, k, none⟩, .string ⟨y.toArray⟩)] := ⟨g1, g2, trivial⟩
          clear g1 g2 hiL hkL
          go_wp2_with fail
          refine region_free _ [0, 1, 2, 3, 4, 5, 6, 7, 8] 0 (by kernel_rfl) (by kernel_rfl) (by kernel_rfl) (by kernel_rfl) (by kernel_rfl) (fun _ _ _ _ _ h => h) HC ?_
          intro hne hu
          simp only [AllCells] at hu
          simp only [pick, List.take_succ_cons, List.take_zero, List.drop_succ_cons, List.drop_zero, List.cons_append, List.nil_append]
          repeat (go_big_quiet_step (fail))
          refine wpQuiet_nil ?_
          clear hne hu
          refine ⟨by kernel_rfl, ?_⟩
          clear HC
          generalize Op.bytesLess x y = bb at *
          cases bb
          · go_wp2_with fail
            refine ⟨⟨k, i + 1, rfl, rfl, by omega, by omega, hk, Lib.hid (HLE1.out rfl), Lib.hid hb2.out.drew⟩, by simp [intOf]; omega⟩
          · go_wp2_with fail
            refine ⟨⟨i, i + 1, rfl, rfl, by omega, by omega, hlt, Lib.hid (HLE2.out rfl), Lib.hid hb2.out.drew⟩, by simp [intOf]; omega⟩
        · have hkL : k < L.length := by rw [HL.out]; exact hk
          have hni : ¬ (i : Int) < (n : Int) := by omega
          have g2 : wr.cell? ⟨g, k, none⟩ = some (.string ⟨L[k].toArray⟩) := row_at HR2.out (i := k) (by rw [List.getElem?_map, List.getElem?_eq_getElem hkL]; rfl)
          have HSel := Lib.hid (hS.out.step k hkL (fun j hj => by
            obtain ⟨_, h⟩ := hleast.out
            exact h j hj (by rw [HL.out] at hj; omega)))
          have HOut := Lib.hid (row_below HOR.out hb2.out)
          have HB3 := Lib.hid (hb.out.trans (hb2.out.mono hb.out.size))
          have hm69 : m ≤ 69 := by have := HLen.out; omega
          have hn69 : n ≤ 69 := by have := HLen.out; omega
          generalize L[k] = x at *
          clear hkL hleast hb2 hi1 hin hi0
          go_wp2_with (at_builtin; refine wpList_append_own_at _ rfl _ _ 46 rfl w.heap.size 9 i0 (.string ⟨#[]⟩) 1 16 Tryz.underlying46 HI.out H0.out H1.out H2.out rfl (by decide) _ _ _ rfl (HOut.out.alloc _) ⟨wr.heap.size, 0, none⟩ 1 1 [.string ⟨x.toArray⟩] rfl rfl (cell_one_new _ _ _) (by simp [Value.oneCell']) (by unfold maxLen; omega) (by omega) (by have := HB3.out.size; simp; omega) ?_; intro v2 w3 hown2 hg3 _ hat3; go_frame)
          have HLR3 := Lib.hid ((HR2.out.alloc (.cells #[.string ⟨x.toArray⟩] 9)).kept hg3 (.inr (fun e => hd.out g rfl e.symm)))
          have HOR3 : Hid (w3.ownsRow w.heap.size 9 1 v2 (m + 1) ((O ++ [x]).map encStr)) := Lib.hid (by rw [List.map_append]; exact hown2)
          have HB4 := Lib.hid ((HB3.out.alloc HB3.out.size (.cells #[.string ⟨x.toArray⟩] 9)).grown hg3 (by have := HB3.out.size; simp; omega) (fun j hj => (HOut.out.lt j hj).1))
          have wi : IntKind.i64.wrap ((k : Int) + 1) = (k : Int) + 1 := IntWalk.i64_in _ (by omega)
          have hk1 : (0 : Int) ≤ (k : Int) + 1 := by omega
          have hk2 : (k : Int) + 1 ≤ (n : Int) := by omega
          have hk3 : (k : Int) ≤ (c : Int) := by omega
          have hk4 : ((k : Int) + 1).toNat = k + 1 := by omega
          have HC : AllCells w3.drew [] := trivial
          clear hown2 hg3 hat3 HOut HB3 HR2
          refine region_free _ [1, 2, 3, 5, 6, 7, 8] 4 (by kernel_rfl) (by kernel_rfl) (by kernel_rfl) (by kernel_rfl) (by kernel_rfl) (fun _ _ _ _ _ h => h) HC ?_
          intro hne hu
          simp only [AllCells] at hu
          simp only [pick, List.take_succ_cons, List.take_zero, List.drop_succ_cons, List.drop_zero, List.cons_append, List.nil_append]
          repeat (go_big_quiet_step (fail))
          refine wpQuiet_nil ?_
          clear hne hu
          clear wi hk1 hk2 hk3 hk4
          have HkL : Hid (k ≤ L.length) := Lib.hid (by rw [HL.out]; omega)
          have HN1 : Hid (∀ W, Below w3.heap.size w3 W → ∀ ad, some (⟨g, 0, none⟩ : Addr) = some ad → ∀ j u, ((L.take k).map encStr)[j]? = some u → W.cell? (ad.add j) = some u) := by
            refine Lib.hid fun W hW ad e j u hj => ?_
            cases e
            rw [add_at, Nat.zero_add]
            refine row_at (row_below HLR3.out hW) ?_
            rw [List.map_take, List.getElem?_take] at hj
            split at hj
            · exact hj
            · cases hj
          have HN2 : Hid (∀ W, Below w3.heap.size w3 W → ∀ ad, (if c = k + 1 then some (⟨g, 0, none⟩ : Addr) else some ⟨g, k + 1, none⟩) = some ad → ∀ j u, ((L.drop (k + 1)).map encStr)[j]? = some u → W.cell? (ad.add j) = some u) := by
            refine Lib.hid fun W hW ad e j u hj => ?_
            split at e
            · rw [List.drop_of_length_le (by rw [HL.out]; omega)] at hj
              cases hj
            · cases e
              rw [add_at]
              refine row_at (row_below HLR3.out hW) ?_
              rw [List.map_drop, List.getElem?_drop] at hj
              exact hj
          have HA2 : Hid ((if c = k + 1 then some (⟨g, 0, none⟩ : Addr) else some ⟨g, k + 1, none⟩) = none → n - (k + 1) = 0 ∧ c - (k + 1) = 0) := Lib.hid (fun e => by split at e <;> cases e)
          generalize (if c = k + 1 then some (⟨g, 0, none⟩ : Addr) else some ⟨g, k + 1, none⟩) = AX at *
          have HE : Hid ((w3.drew.alloc (.cells #[] 9)).ownsRow w3.heap.size 9 1 (.slice (some ⟨w3.heap.size, 0, none⟩) 0 0) 0 []) := Lib.hid (row_empty w3.drew)
          have HBE : Hid (Below w3.heap.size w3 (w3.drew.alloc (.cells #[] 9))) := Lib.hid (((Below.refl _ w3).drew).alloc (Nat.le_refl _) _)
          refine anyN_oneL 0 (by kernel_rfl) ?_
          simp only [List.take_succ_cons, List.take_zero, List.drop_succ_cons, List.drop_zero]
          go_wp2_with fail
          refine And.intro (fun _ => trivial) ?_
          refine anyN_oneL 4 (by kernel_rfl) ?_
          simp only [List.take_succ_cons, List.take_zero, List.drop_succ_cons, List.drop_zero]
          refine wpList_append_src _ rfl _ _ 46 rfl w3.heap.size 9 i0 (.string ⟨#[]⟩) 1 16 Tryz.underlying46 HI.out H0.out H1.out H2.out rfl (by decide) (.slice (some ⟨w3.heap.size, 0, none⟩) 0 0) 0 [] rfl HE.out (some ⟨g, 0, none⟩) k c ((L.take k).map encStr) rfl (fun h => by cases h) (by have := HkL.out; simp; omega) (HN1.out _ HBE.out) (one_names _) (by unfold maxLen; omega) (by omega) HBE.out.size ?_
          intro v38 w5 hown5 hg5 hat5
          have HR5 := Lib.hid hown5
          have HB5 := Lib.hid (HBE.out.grown hg5 HBE.out.size (fun j hj => (HE.out.lt j hj).1))
          clear hown5 hg5 hat5
          simp only [Act.put, List.setIfInBounds_toArray, List.set_cons_succ, List.set_cons_zero]
          go_wp2_with fail
          refine And.intro (fun _ => trivial) ?_
          refine anyN_oneL 9 (by kernel_rfl) ?_
          simp only [List.take_succ_cons, List.take_zero, List.drop_succ_cons, List.drop_zero]
          refine wpList_append_src _ rfl _ _ 46 rfl w3.heap.size 9 i0 (.string ⟨#[]⟩) 1 16 Tryz.underlying46 HI.out H0.out H1.out H2.out rfl (by decide) v38 (0 + k) ([] ++ (L.take k).map encStr) rfl HR5.out AX (n - (k + 1)) (c - (k + 1)) ((L.drop (k + 1)).map encStr) rfl HA2.out (by have := HL.out; simp; omega) (HN2.out _ HB5.out) (one_names _) (by unfold maxLen; omega) (by omega) HB5.out.size ?_
          intro v43 w6 hown6 hg6 hat6
          have HR6 : Hid (w6.ownsRow w3.heap.size 9 1 v43 (L.take k ++ L.drop (k + 1)).length ((L.take k ++ L.drop (k + 1)).map encStr)) := Lib.hid (by
            have e1 : (L.take k ++ L.drop (k + 1)).length = 0 + k + (n - (k + 1)) := by have := HkL.out; have := HL.out; simp; omega
            rw [e1, List.map_append]
            exact hown6)
          have HB6 := Lib.hid (HB5.out.grown hg6 HB5.out.size (fun j hj => (HR5.out.lt j hj).1))
          clear hown6 hg6 hat6
          simp only [Act.put, List.setIfInBounds_toArray, List.set_cons_succ, List.set_cons_zero]
          go_wp2_with fail
          refine And.intro (fun _ => trivial) ?_
          refine anyN_oneL 10 (by kernel_rfl) ?_
          simp only [List.take_succ_cons, List.take_zero, List.drop_succ_cons, List.drop_zero]
          go_wp2_with fail
          refine And.intro (fun _ => trivial) ?_
          refine ⟨by kernel_rfl, ?_⟩
          go_wp2_with fail
          refine ⟨⟨O ++ [x], L.take k ++ L.drop (k + 1), HSel, Lib.hid (ownsRow_lower HR6.out HB4.out.size), Lib.hid ?_, Lib.hid ?_, Lib.hid (HB4.out.trans (HB6.out.mono HB4.out.size))⟩, ?_⟩
          · have h := row_below HOR3.out HB6.out
            rw [List.length_append, List.length_singleton, HO.out]
            exact h
          · intro g' h1 h2
            have h3 := ownsRow_base HR6.out g' h1
            have h4 := (HOR3.out.lt g' h2).2
            omega
          · obtain ⟨A', c', e', _⟩ := ownsRow_shape HR6.out
            have := HSel.out.len
            have := HLen.out
            rw [e']
            simp only [slen]
            have hl := HL.out
            simp only [List.length_append, List.length_singleton] at this ⊢
            have h7 := HkL.out
            simp
            omega
end Go.Proofs.YtdmbppgogdkpdaaGreatDoor
