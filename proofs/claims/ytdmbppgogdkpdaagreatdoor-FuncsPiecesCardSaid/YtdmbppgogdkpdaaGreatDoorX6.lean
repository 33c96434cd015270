/-
  Package num: gather and bare: their contracts. Conditions: those said in each statement.
  Package num: bare: its contract. Conditions: those said in each statement.
  Package num: settle: its contract. Conditions: those said in each statement.
  Package num: cut: its contract. Conditions: those said in each statement.
  Package num: trimmed: its contract. Conditions: those said in each statement.
  Package num: round: its contract. Conditions: those said in each statement.
-/
import Derived.Test.YtdmbppgogdkpdaaGreatDoorQ8
import Derived.Deep.AppendSrc
import Derived.Laws.AppendOwn
import Derived.Deep.Cut
import Derived.Deep.DeepCutAuto
set_option linter.unusedSectionVars false
namespace Go.Proofs.YtdmbppgogdkpdaaGreatDoor
open Go.RowKit
/-- One block alone is turned; new ones may come. -/
structure Only (S : Nat) (w w' : World) : Prop where
  os : w'.os = w.os
  tape : w'.tape = w.tape
  output : w'.output = w.output
  size : w.heap.size ≤ w'.heap.size
  block : ∀ k, k < w.heap.size → k ≠ S → w'.heap[k]? = w.heap[k]?
theorem Only.refl (S : Nat) (w : World) : Only S w w := ⟨rfl, rfl, rfl, Nat.le_refl _, fun _ _ _ => rfl⟩
theorem Only.trans {S : Nat} {w w1 w2 : World} (h : Only S w w1) (k : Only S w1 w2) : Only S w w2 :=
  ⟨k.os.trans h.os, k.tape.trans h.tape, k.output.trans h.output, Nat.le_trans h.size k.size, fun j hj hne => (k.block j (Nat.lt_of_lt_of_le hj h.size) hne).trans (h.block j hj hne)⟩
theorem Only.below {S : Nat} {w w1 w2 : World} (h : Only S w w1) (k : Below w1.heap.size w1 w2) : Only S w w2 :=
  ⟨k.os.trans h.os, k.tape.trans h.tape, k.output.trans h.output, Nat.le_trans h.size k.size, fun j hj hne => (k.block j (Nat.lt_of_lt_of_le hj h.size)).trans (h.block j hj hne)⟩
theorem Only.store {S : Nat} {w w1 : World} (h : Only S w w1) (i : Nat) (u : Value) : Only S w (w1.setCell ⟨S, i, none⟩ u) :=
  have b := (Below.refl 0 w1).setCell (p := ⟨S, i, none⟩) (Nat.zero_le _) u
  ⟨b.os.trans h.os, b.tape.trans h.tape, b.output.trans h.output, Nat.le_trans h.size b.size, fun j hj hne => (Below.heap_setCell w1 ⟨S, i, none⟩ u j (fun e => hne e)).trans (h.block j hj hne)⟩
theorem Only.to_below {S : Nat} {w0 w w' : World} (h : Only S w w') (k : Below w0.heap.size w0 w) (hS : w0.heap.size ≤ S) : Below w0.heap.size w0 w' :=
  ⟨h.os.trans k.os, h.tape.trans k.tape, h.output.trans k.output, Nat.le_trans k.size h.size, fun j hj => (h.block j (Nat.lt_of_lt_of_le hj k.size) (by omega)).trans (k.block j hj)⟩
theorem Only.of_below {S : Nat} {w w' : World} (k : Below w.heap.size w w') : Only S w w' := (Only.refl S w).below k
theorem Only.cell {S : Nat} {w w' : World} (h : Only S w w') {p : Addr} (hp : p.block < w.heap.size) (hne : p.block ≠ S) : w'.cell? p = w.cell? p := World.cell?_of_block (h.block _ hp hne)
def bytesV (l : List Int) : List Value := l.map fun b => Value.int .u8 b
def intsV (l : List Int) : List Value := l.map fun b => Value.int .i64 b
theorem bytesV_get {l : List Int} {i : Nat} {b : Int} (h : l[i]? = some b) : (bytesV l)[i]? = some (.int .u8 b) := by simp [bytesV, h]
theorem intsV_get {l : List Int} {i : Nat} {b : Int} (h : l[i]? = some b) : (intsV l)[i]? = some (.int .i64 b) := by simp [intsV, h]
theorem intsV_set (l : List Int) (i : Nat) (b : Int) : (intsV l).toArray.setIfInBounds i (.int .i64 b) = (intsV (l.set i b)).toArray := by simp [intsV]
theorem bytesV_set (l : List Int) (i : Nat) (b : Int) : (bytesV l).toArray.setIfInBounds i (.int .u8 b) = (bytesV (l.set i b)).toArray := by simp [bytesV]
/-- What gather makes of a sum's digits from a place on. -/
def gath (less : Bool) (s : List Int) (a : Nat) : List Int → List Int
  | [] => s
  | d :: ds => gath less (s.set a (if less then s.getD a 0 - d else s.getD a 0 + d)) (a + 1) ds
theorem gath_len (less : Bool) : ∀ (ds s : List Int) (a : Nat), (gath less s a ds).length = s.length
  | [], _, _ => rfl
  | d :: ds, s, a => by rw [gath, gath_len less ds]; simp
def Small (n : Int) (s : List Int) : Prop := ∀ x ∈ s, -n ≤ x ∧ x ≤ n
theorem Small.getD {n : Int} {s : List Int} (h : Small n s) (h0 : 0 ≤ n) (i : Nat) : -n ≤ s.getD i 0 ∧ s.getD i 0 ≤ n := by
  rw [List.getD_eq_getElem?_getD]
  cases e : s[i]? with
  | none => simp; omega
  | some x => exact h x (List.mem_of_getElem? e)
set_option maxRecDepth 100000 in
set_option maxHeartbeats 4000000 in
theorem gather_c (S : Nat) (s : List Int) (cp : Nat) (X o n c : Nat) (l : List Int) (less : Bool) (w : World) (hB : Blk w S 3 (intsV s).toArray) (hne : X ≠ S) (hn : l.length = n) (hm : n ≤ s.length) (hs : s.length < 1000000)
    (hl : ∀ (i : Nat) (b : Int), l[i]? = some b → w.cell? ⟨X, o + i, none⟩ = some (.int .u8 b)) (hb : ∀ b ∈ l, 0 ≤ b ∧ b ≤ 255) (h1 : Small 1000000 s) :
    Calls Tryz.prog 106 #[.slice (some ⟨S, 0, none⟩) s.length cp, .slice (some ⟨X, o, none⟩) n c, .bool less] w fun e w' => e = .returned (.tuple #[]) ∧ Blk w' S 3 (intsV (gath less s (s.length - n) l)).toArray ∧ Only S w w' := by
  have hs0 : Hid (∀ (i : Nat) (b : Int), l[i]? = some b → w.cell? ⟨X, o + i, none⟩ = some (.int .u8 b)) := hl
  have hB0 : Hid (Blk w S 3 (intsV s).toArray) := hB
  clear hl hB
  go_enter Tryz.func106, Tryz.ntmps106
  go_wp2_with fail
  go_loopw [16] (fun x wr => ∃ (k : Nat) (t : List Int), x = .int .i64 k ∧ k ≤ n ∧ t.length = s.length ∧ Hid (Small (1000000 + 255 * k) t) ∧ Hid (gath less t (s.length - n + k) (l.drop k) = gath less s (s.length - n) l) ∧ Hid (Blk wr S 3 (intsV t).toArray) ∧ Hid (Only S w wr)) (fun x _ => n - (intOf x).toNat)
  case atStart => exact ⟨0, s, rfl, Nat.zero_le _, rfl, (by show Small _ _; simpa using h1), rfl, hB0, Only.refl _ _⟩
  case round =>
    obtain ⟨k, t, rfl, hk, ht, hsm, hg, hBt, hO⟩ := hrel
    by_cases hkn : k = n
    · have hd : ¬ (k : Int) < (n : Int) := by omega
      subst hkn
      go_wp2_with fail
      refine bodyPost_end (results_none rfl _ _ _) rfl ?_
      refine ⟨rfl, ?_, hO.out⟩
      have e := hg.out
      rw [← hn, List.drop_length, gath] at e
      rw [← hn, ← e]
      exact hBt.out
    · have hd : (k : Int) < (n : Int) := by omega
      obtain ⟨d, hld⟩ : ∃ d, l[k]? = some d := ⟨l[k], List.getElem?_eq_getElem (by omega)⟩
      have hc := (hO.out.cell (p := ⟨X, o + k, none⟩) (World.block_lt_of_cell? w _ (hs0.out k d hld)) hne).trans (hs0.out k d hld)
      obtain ⟨z, hz⟩ : ∃ z, t[s.length - n + k]? = some z := ⟨t[s.length - n + k], List.getElem?_eq_getElem (by omega)⟩
      have hcs : wr.cell? ⟨S, s.length - n + k, none⟩ = some (.int .i64 z) := by
        rw [hBt.out.cell, List.getElem?_toArray]; exact intsV_get hz
      have hfz := hBt.out.frozen (s.length - n + k)
      have hzb := hsm.out z (List.mem_of_getElem? hz)
      have hdb := hb d (List.mem_of_getElem? hld)
      have hdrop : l.drop k = d :: l.drop (k + 1) := by
        rw [List.drop_eq_getElem_cons (by omega)]
        congr 1
        exact Option.some.inj ((List.getElem?_eq_getElem (by omega)).symm.trans hld)
      have hgd : t.getD (s.length - n + k) 0 = z := by rw [List.getD_eq_getElem?_getD, hz]; rfl
      have HG := Lib.hid hg.out
      rw [hdrop] at HG
      have HGD := Lib.hid hgd
      clear hdrop hgd hg
      cases less with
      | true =>
        go_wp2_with fail
        go_roundw
        case rel =>
          have hr := HG.out
          rw [gath, HGD.out, if_pos rfl] at hr
          refine ⟨k + 1, t.set (s.length - n + k) (z - d), rfl, by omega, by simpa using ht, ?_, ?_, ?_, ?_⟩
          · exact fun x hx => by
              rcases List.mem_or_eq_of_mem_set hx with h | rfl
              · have := hsm.out x h; omega
              · omega
          · exact hr
          · have := hBt.out.store (s.length - n + k) (.int .i64 (z - d))
            rw [intsV_set] at this
            exact this
          · exact hO.out.store _ _
        case measure => simp [intOf]; omega
      | false =>
        go_wp2_with fail
        go_roundw
        case rel =>
          have hr := HG.out
          rw [gath, HGD.out, if_neg Bool.false_ne_true] at hr
          refine ⟨k + 1, t.set (s.length - n + k) (z + d), rfl, by omega, by simpa using ht, ?_, ?_, ?_, ?_⟩
          · exact fun x hx => by
              rcases List.mem_or_eq_of_mem_set hx with h | rfl
              · have := hsm.out x h; omega
              · omega
          · exact hr
          · have := hBt.out.store (s.length - n + k) (.int .i64 (z + d))
            rw [intsV_set] at this
            exact this
          · exact hO.out.store _ _
        case measure => simp [intOf]; omega
end Go.Proofs.YtdmbppgogdkpdaaGreatDoor
namespace Go.Proofs.YtdmbppgogdkpdaaGreatDoor
open Go.RowKit
def bareF (l : List Int) : List Int := l.dropWhile (· == 0)
theorem bareF_zero {d : Int} {l : List Int} (h : d = 0) : bareF (d :: l) = bareF l := by simp [bareF, h]
theorem bareF_other {d : Int} {l : List Int} (h : d ≠ 0) : bareF (d :: l) = d :: l := by simp [bareF, h]
/-- The bytes of a slice, as they lie. -/
def BytesAt (w : World) (X o : Nat) (l : List Int) : Prop := ∀ (i : Nat) (b : Int), l[i]? = some b → w.cell? ⟨X, o + i, none⟩ = some (.int .u8 b)
def BareP (w : World) (X o n c : Nat) (l : List Int) (e : Ending) (w' : World) : Prop := ∃ o' c', e = .returned (.slice (some ⟨X, o', none⟩) (bareF l).length c') ∧ w' = w ∧ (bareF l).length ≤ c' ∧ c' ≤ c ∧ (0 < (bareF l).length → o' + (bareF l).length = o + n ∧ c' + o' = c + o)
set_option maxRecDepth 100000 in
set_option maxHeartbeats 4000000 in
theorem bare_c' (X o n c : Nat) (l : List Int) (w : World) (hn : l.length = n) (hnc : n ≤ c) (hl : BytesAt w X o l) (hc : c ≤ 9223372036854775807) :
    Calls Tryz.prog 223 #[.slice (some ⟨X, o, none⟩) n c] w (BareP w X o n c l) := by
  have hl0 : Hid (BytesAt w X o l) := hl
  clear hl
  go_enter Tryz.func223, Tryz.ntmps223
  go_wp2_with fail
  go_loop [0] (fun x => ∃ (j o1 c1 : Nat), x = .slice (some ⟨X, o1, none⟩) (n - j) c1 ∧ j ≤ n ∧ n - j ≤ c1 ∧ c1 ≤ c ∧ Hid (bareF (l.drop j) = bareF l) ∧ Hid (j < n → o1 = o + j ∧ c1 + o1 = c + o)) (fun x => match x with | .slice _ m _ => m | _ => 0)
  case atStart => exact ⟨0, o, c, rfl, Nat.zero_le _, by omega, Nat.le_refl _, by show _ = _; simp, fun _ => ⟨rfl, rfl⟩⟩
  case round =>
    obtain ⟨j, o1, c1, rfl, hj, hc1, hcc, hb, ho⟩ := hrel
    by_cases hjn : j = n
    · have hd : ¬ (0 : Int) < ((n - j : Nat) : Int) := by omega
      go_wp2_with fail
      go_ret
      have e := hb.out
      subst hjn
      rw [← hn, List.drop_length] at e
      have e0 : bareF l = [] := e.symm
      refine ⟨o1, c1, by rw [e0]; rfl, rfl, by rw [e0]; exact Nat.zero_le _, hcc, fun h => ?_⟩
      rw [e0] at h; exact absurd h (by simp)
    · have hd : (0 : Int) < ((n - j : Nat) : Int) := by omega
      obtain ⟨d, hld⟩ : ∃ d, l[j]? = some d := ⟨l[j], List.getElem?_eq_getElem (by omega)⟩
      obtain ⟨rfl, hco⟩ := ho.out (by omega)
      have hcell := hl0.out j d hld
      by_cases h0 : d = 0
      · subst h0
        go_wp2_with fail
        constructor
        · have hdrop : l.drop j = 0 :: l.drop (j + 1) := by
            rw [List.drop_eq_getElem_cons (by omega)]
            congr 1
            exact Option.some.inj ((List.getElem?_eq_getElem (by omega)).symm.trans hld)
          have e := hb.out
          rw [hdrop, bareF_zero rfl] at e
          by_cases h1 : c1 = 1
          · refine ⟨j + 1, o + j, 0, ?_, by omega, by omega, by omega, e, fun h => by omega⟩
            rw [if_pos h1, h1, Nat.sub_sub]
          · refine ⟨j + 1, o + (j + 1), c1 - 1, ?_, by omega, by omega, by omega, e, fun h => ⟨rfl, by omega⟩⟩
            rw [if_neg h1, Nat.sub_sub, Nat.add_assoc]
        · show n - j - 1 < n - j
          omega
      · have h0b : (d == 0) = false := by simpa using h0
        go_wp2_with fail
        go_ret
        have hdrop : l.drop j = d :: l.drop (j + 1) := by
          rw [List.drop_eq_getElem_cons (by omega)]
          congr 1
          exact Option.some.inj ((List.getElem?_eq_getElem (by omega)).symm.trans hld)
        have e := hb.out
        have hlen : (bareF l).length = n - j := by
          rw [← e, hdrop, bareF_other h0, ← hdrop, List.length_drop, hn]
        exact ⟨o + j, c1, by rw [hlen]; rfl, rfl, by omega, hcc, fun _ => ⟨by omega, by omega⟩⟩
end Go.Proofs.YtdmbppgogdkpdaaGreatDoor
namespace Go.Proofs.YtdmbppgogdkpdaaGreatDoor
open Go.RowKit
def negF : List Int → Bool
  | [] => false
  | d :: l => if d = 0 then negF l else decide (d < 0)
/-- One place of settle: its digit and what is carried on. -/
def sett1 (neg : Bool) (d carry : Int) : Int × Int :=
  let d := (if neg then -d else d) + carry
  if 9 < d then (d - 10, 1) else if d < 0 then (d + 10, -1) else (d, 0)
/-- settle's digits, from place i - 1 down. -/
def sett (neg : Bool) (s : List Int) : Nat → Int → List Int → List Int
  | 0, _, out => out
  | i + 1, carry, out => sett neg s i (sett1 neg (s.getD i 0) carry).2 (out.set i ((sett1 neg (s.getD i 0) carry).1 % 256))
def settF (s : List Int) : List Int := sett (negF s) s s.length 0 (List.replicate s.length 0)
theorem sett_len (neg : Bool) (s : List Int) : ∀ (i : Nat) (c : Int) (out : List Int), (sett neg s i c out).length = out.length
  | 0, _, _ => rfl
  | i + 1, c, out => by rw [sett, sett_len neg s i]; simp
theorem Tryz.info5n : (Tryz.prog.info? 5).map (fun i => (i.zero, i.size, i.bytes)) = some (some (.int .u8 0), 1, 1) := by kernel_rfl
theorem makeB (l c : Nat) (hl : l ≤ c) (hn : c ≤ 1000000) (w : World) : (Instr.makeSlice 124 (.int .i64 (l : Int)) (.int .i64 (c : Int))).run Tryz.prog w =
    .ok (.slice (some ⟨w.heap.size, 0, none⟩) l c) (w.alloc (.cells (bytesV (List.replicate c 0)).toArray 5)) := by
  obtain ⟨i0, hi, hz0, hz1, hz2⟩ := info_parts Tryz.info5n
  have h := run_make (P := Tryz.prog) w 124 5 i0 (.int .u8 0) Tryz.underlying124 hi hz0 .i64 .i64 l c (by omega) (by omega) (by rw [hz2]; omega) (by omega)
  rw [h]
  have e : madeCells (Value.cells (.int .u8 0)) (c * 1) = (bytesV (List.replicate c 0)).toArray := by
    apply Array.ext
    · simp [size_madeCells, bytesV]
    · intro j h1 h2
      have : j % 1 = 0 := Nat.mod_one _
      simp [madeCells, Value.cells, this, bytesV]
  simp only [Int.toNat_natCast, hz1, e]
def SettleP (w : World) (s : List Int) (e : Ending) (w' : World) : Prop := e = .returned (.tuple #[.slice (some ⟨w.heap.size, 0, none⟩) s.length s.length, .bool (negF s)]) ∧ Below w.heap.size w w' ∧ Blk w' w.heap.size 5 (bytesV (settF s)).toArray
set_option maxRecDepth 100000 in
set_option maxHeartbeats 4000000 in
theorem settle_c (S : Nat) (s : List Int) (cp : Nat) (w : World) (hB : Blk w S 3 (intsV s).toArray) (hs : s.length < 1000000) (h1 : Small 1000000000 s) :
    Calls Tryz.prog 107 #[.slice (some ⟨S, 0, none⟩) s.length cp] w (SettleP w s) := by
  have hB0 : Hid (Blk w S 3 (intsV s).toArray) := hB
  clear hB
  have hcell : Hid (∀ (i : Nat) (z : Int), s[i]? = some z → w.cell? ⟨S, i, none⟩ = some (.int .i64 z)) := fun i z hz => by
    rw [hB0.out.cell, List.getElem?_toArray]; exact intsV_get hz
  go_enter Tryz.func107, Tryz.ntmps107
  go_wp2_with fail
  go_loop [4, 13] (fun b x => ∃ (k : Nat), b = .bool false ∧ x = .int .i64 k ∧ k ≤ s.length ∧ Hid (negF (s.drop k) = negF s)) (fun _ x => s.length - (intOf x).toNat)
  case atStart => exact ⟨0, rfl, rfl, Nat.zero_le _, rfl⟩
  case round =>
    obtain ⟨k, rfl, rfl, hk, hg⟩ := hrel
    by_cases hkn : k = s.length
    · have hd : ¬ (k : Int) < (s.length : Int) := by omega
      have HNF := Lib.hid (show sett false s s.length 0 (List.replicate s.length 0) = settF s by
        have e := hg.out
        rw [hkn, List.drop_length] at e
        unfold settF; rw [← e]; rfl)
      have HNG := Lib.hid (show negF s = false by
        have e := hg.out
        rw [hkn, List.drop_length] at e
        rw [← e]; rfl)
      have hmk := makeB s.length s.length (Nat.le_refl _) (by omega) w
      clear hg
      go_wp2_with fail
      go_loopw [8, 9] (fun cy x wr => ∃ (k : Nat) (c : Int) (out : List Int), cy = .int .i64 c ∧ x = .int .i64 ((k : Int) - 1) ∧ k ≤ s.length ∧ out.length = s.length ∧ Hid (-1 ≤ c ∧ c ≤ 1) ∧ Hid (sett false s k c out = settF s) ∧ Hid (Below w.heap.size w wr) ∧ Hid (Blk wr w.heap.size 5 (bytesV out).toArray)) (fun _ x _ => (intOf x + 1).toNat)
      case atStart => exact ⟨s.length, 0, List.replicate s.length 0, rfl, rfl, Nat.le_refl _, by simp, ⟨by omega, by omega⟩, HNF.out, (Below.refl _ w).alloc (Nat.le_refl _) _, Blk.new w 5 _⟩
      case round =>
        obtain ⟨k, c, out, rfl, rfl, hk, ho, hcy, hse, hBl, hOb⟩ := hrel
        have hcy1 := hcy.out.1
        have hcy2 := hcy.out.2
        by_cases hk0 : k = 0
        · subst hk0
          have hd : ¬ (0 : Int) ≤ ((0 : Nat) : Int) - 1 := by omega
          go_wp2_with fail
          exact bodyPost_ret (v := .tuple #[.slice (some ⟨w.heap.size, 0, none⟩) s.length s.length, .bool false]) (by simp [results, Tryz.f107, go_sem]) rfl ⟨by rw [HNG.out], hBl.out, by have := hse.out; rw [sett] at this; rw [← this]; exact hOb.out⟩
        · obtain ⟨i, rfl⟩ : ∃ i, k = i + 1 := ⟨k - 1, by omega⟩
          have hix : ((i + 1 : Nat) : Int) - 1 = (i : Int) := by omega
          have hd : (0 : Int) ≤ (i : Int) := by omega
          obtain ⟨z, hz⟩ : ∃ z, s[i]? = some z := ⟨s[i], List.getElem?_eq_getElem (by omega)⟩
          have hcs := (hBl.out.cell (p := ⟨S, i, none⟩) (World.block_lt_of_cell? w _ (hcell.out i z hz))).trans (hcell.out i z hz)
          have hzb := h1 z (List.mem_of_getElem? hz)
          have hgd : s.getD i 0 = z := by rw [List.getD_eq_getElem?_getD, hz]; rfl
          have hco : ∃ u, wr.cell? ⟨w.heap.size, i, none⟩ = some (.int .u8 u) := ⟨out[i]'(by omega), by rw [hOb.out.cell, List.getElem?_toArray]; exact bytesV_get (List.getElem?_eq_getElem (by omega))⟩
          obtain ⟨u, hcu⟩ := hco
          have hfz := hOb.out.frozen i
          have HSE := Lib.hid hse.out
          rw [sett, hgd] at HSE
          clear hgd hse
          simp only [hix]
          obtain ⟨e, he⟩ : ∃ e : Int, e = (if false then -z else z) + c := ⟨_, rfl⟩
          have he' := he
          simp only [Bool.false_eq_true, if_false, if_true] at he'
          have HNX : Hid (∀ (e' : Int) (c' : Int), sett1 false z c = (e', c') → (-1 ≤ c' ∧ c' ≤ 1) → (∃ (k : Nat) (c : Int) (out : List Int), Value.int .i64 c' = .int .i64 c ∧ Value.int .i64 ((i : Int) - 1) = .int .i64 ((k : Int) - 1) ∧ k ≤ s.length ∧ out.length = s.length ∧ Hid (-1 ≤ c ∧ c ≤ 1) ∧ Hid (sett false s k c out = settF s) ∧ Hid (Below w.heap.size w (wr.setCell ⟨w.heap.size, i, none⟩ (.int .u8 (e' % 256)))) ∧ Hid (Blk (wr.setCell ⟨w.heap.size, i, none⟩ (.int .u8 (e' % 256))) w.heap.size 5 (bytesV out).toArray))) := by
            intro e' c' h5 hb5
            have h6 := HSE.out
            rw [h5] at h6
            refine ⟨i, c', out.set i (e' % 256), rfl, rfl, by omega, by simpa using ho, hb5, h6, hBl.out.setCell (Nat.le_refl _) _, ?_⟩
            have := hOb.out.store i (.int .u8 (e' % 256))
            rw [bytesV_set] at this
            exact this
          have HS1 : Hid (sett1 false z c = if 9 < e then (e - 10, 1) else if e < 0 then (e + 10, -1) else (e, 0)) := by show _ = _; rw [he]; rfl
          clear HSE hOb hBl he
          have hd2 : decide ((0 : Int) ≤ (i : Int)) = true := decide_eq_true hd
          by_cases h9 : 9 < e
          · have h8 := HS1.out
            rw [if_pos h9] at h8
            have H7 := Lib.hid (HNX.out _ _ h8 (by omega))
            rw [he'] at h9 H7
            clear h8 HS1 HNX he'
            go_wp2_with fail
            refine ⟨H7.out, ?_⟩
            show ((i : Int) - 1 + 1).toNat < ((i : Int) + 1).toNat
            omega
          · by_cases h0 : e < 0
            · have h8 := HS1.out
              rw [if_neg h9, if_pos h0] at h8
              have H7 := Lib.hid (HNX.out _ _ h8 (by omega))
              rw [he'] at h9 H7 h0
              clear h8 HS1 HNX he'
              go_wp2_with fail
              refine ⟨H7.out, ?_⟩
              show ((i : Int) - 1 + 1).toNat < ((i : Int) + 1).toNat
              omega
            · have h8 := HS1.out
              rw [if_neg h9, if_neg h0] at h8
              have H7 := HNX.out _ _ h8 (by omega)
              have hm : e % 256 = e := by omega
              rw [hm] at H7
              have H7 := Lib.hid H7
              rw [he'] at h9 H7 h0
              clear h8 HS1 HNX he' hm
              go_wp2_with fail
              refine ⟨H7.out, ?_⟩
              show ((i : Int) - 1 + 1).toNat < ((i : Int) + 1).toNat
              omega
    · have hd : (k : Int) < (s.length : Int) := by omega
      obtain ⟨z, hz⟩ : ∃ z, s[k]? = some z := ⟨s[k], List.getElem?_eq_getElem (by omega)⟩
      have hcs := hcell.out k z hz
      have hdrop : s.drop k = z :: s.drop (k + 1) := by
        rw [List.drop_eq_getElem_cons (by omega)]
        congr 1
        exact Option.some.inj ((List.getElem?_eq_getElem (by omega)).symm.trans hz)
      have HG := Lib.hid hg.out
      rw [hdrop, negF] at HG
      clear hg hdrop
      by_cases h0 : z = 0
      · subst h0
        go_wp2_with fail
        refine ⟨⟨k + 1, rfl, by simp, by omega, ?_⟩, ?_⟩
        · have e := HG.out
          rw [if_pos rfl] at e
          exact e
        · show s.length - ((k : Int) + 1).toNat < s.length - (k : Int).toNat
          omega
      · have h0b : (z != 0) = true := by simpa using h0
        have hmk := makeB s.length s.length (Nat.le_refl _) (by omega) w
        by_cases hzn : z < 0
        · have HNG := Lib.hid (show negF s = true by
            have e := HG.out
            rw [if_neg h0, decide_eq_true hzn] at e
            exact e.symm)
          have HNF := Lib.hid (show sett true s s.length 0 (List.replicate s.length 0) = settF s by unfold settF; rw [HNG.out])
          clear HG
          go_wp2_with fail
          go_loopw [8, 9] (fun cy x wr => ∃ (k : Nat) (c : Int) (out : List Int), cy = .int .i64 c ∧ x = .int .i64 ((k : Int) - 1) ∧ k ≤ s.length ∧ out.length = s.length ∧ Hid (-1 ≤ c ∧ c ≤ 1) ∧ Hid (sett true s k c out = settF s) ∧ Hid (Below w.heap.size w wr) ∧ Hid (Blk wr w.heap.size 5 (bytesV out).toArray)) (fun _ x _ => (intOf x + 1).toNat)
          case atStart => exact ⟨s.length, 0, List.replicate s.length 0, rfl, rfl, Nat.le_refl _, by simp, ⟨by omega, by omega⟩, HNF.out, (Below.refl _ w).alloc (Nat.le_refl _) _, Blk.new w 5 _⟩
          case round =>
            obtain ⟨k, c, out, rfl, rfl, hk, ho, hcy, hse, hBl, hOb⟩ := hrel
            have hcy1 := hcy.out.1
            have hcy2 := hcy.out.2
            by_cases hk0 : k = 0
            · subst hk0
              have hd : ¬ (0 : Int) ≤ ((0 : Nat) : Int) - 1 := by omega
              go_wp2_with fail
              exact bodyPost_ret (v := .tuple #[.slice (some ⟨w.heap.size, 0, none⟩) s.length s.length, .bool true]) (by simp [results, Tryz.f107, go_sem]) rfl ⟨by rw [HNG.out], hBl.out, by have := hse.out; rw [sett] at this; rw [← this]; exact hOb.out⟩
            · obtain ⟨i, rfl⟩ : ∃ i, k = i + 1 := ⟨k - 1, by omega⟩
              have hix : ((i + 1 : Nat) : Int) - 1 = (i : Int) := by omega
              have hd : (0 : Int) ≤ (i : Int) := by omega
              obtain ⟨z, hz⟩ : ∃ z, s[i]? = some z := ⟨s[i], List.getElem?_eq_getElem (by omega)⟩
              have hcs := (hBl.out.cell (p := ⟨S, i, none⟩) (World.block_lt_of_cell? w _ (hcell.out i z hz))).trans (hcell.out i z hz)
              have hzb := h1 z (List.mem_of_getElem? hz)
              have hgd : s.getD i 0 = z := by rw [List.getD_eq_getElem?_getD, hz]; rfl
              have hco : ∃ u, wr.cell? ⟨w.heap.size, i, none⟩ = some (.int .u8 u) := ⟨out[i]'(by omega), by rw [hOb.out.cell, List.getElem?_toArray]; exact bytesV_get (List.getElem?_eq_getElem (by omega))⟩
              obtain ⟨u, hcu⟩ := hco
              have hfz := hOb.out.frozen i
              have HSE := Lib.hid hse.out
              rw [sett, hgd] at HSE
              clear hgd hse
              simp only [hix]
              obtain ⟨e, he⟩ : ∃ e : Int, e = (if true then -z else z) + c := ⟨_, rfl⟩
              have he' := he
              simp only [Bool.false_eq_true, if_false, if_true] at he'
              have HNX : Hid (∀ (e' : Int) (c' : Int), sett1 true z c = (e', c') → (-1 ≤ c' ∧ c' ≤ 1) → (∃ (k : Nat) (c : Int) (out : List Int), Value.int .i64 c' = .int .i64 c ∧ Value.int .i64 ((i : Int) - 1) = .int .i64 ((k : Int) - 1) ∧ k ≤ s.length ∧ out.length = s.length ∧ Hid (-1 ≤ c ∧ c ≤ 1) ∧ Hid (sett true s k c out = settF s) ∧ Hid (Below w.heap.size w (wr.setCell ⟨w.heap.size, i, none⟩ (.int .u8 (e' % 256)))) ∧ Hid (Blk (wr.setCell ⟨w.heap.size, i, none⟩ (.int .u8 (e' % 256))) w.heap.size 5 (bytesV out).toArray))) := by
                intro e' c' h5 hb5
                have h6 := HSE.out
                rw [h5] at h6
                refine ⟨i, c', out.set i (e' % 256), rfl, rfl, by omega, by simpa using ho, hb5, h6, hBl.out.setCell (Nat.le_refl _) _, ?_⟩
                have := hOb.out.store i (.int .u8 (e' % 256))
                rw [bytesV_set] at this
                exact this
              have HS1 : Hid (sett1 true z c = if 9 < e then (e - 10, 1) else if e < 0 then (e + 10, -1) else (e, 0)) := by show _ = _; rw [he]; rfl
              clear HSE hOb hBl he
              have hd2 : decide ((0 : Int) ≤ (i : Int)) = true := decide_eq_true hd
              by_cases h9 : 9 < e
              · have h8 := HS1.out
                rw [if_pos h9] at h8
                have H7 := Lib.hid (HNX.out _ _ h8 (by omega))
                rw [he'] at h9 H7
                clear h8 HS1 HNX he'
                go_wp2_with fail
                refine ⟨H7.out, ?_⟩
                show ((i : Int) - 1 + 1).toNat < ((i : Int) + 1).toNat
                omega
              · by_cases h0 : e < 0
                · have h8 := HS1.out
                  rw [if_neg h9, if_pos h0] at h8
                  have H7 := Lib.hid (HNX.out _ _ h8 (by omega))
                  rw [he'] at h9 H7 h0
                  clear h8 HS1 HNX he'
                  go_wp2_with fail
                  refine ⟨H7.out, ?_⟩
                  show ((i : Int) - 1 + 1).toNat < ((i : Int) + 1).toNat
                  omega
                · have h8 := HS1.out
                  rw [if_neg h9, if_neg h0] at h8
                  have H7 := HNX.out _ _ h8 (by omega)
                  have hm : e % 256 = e := by omega
                  rw [hm] at H7
                  have H7 := Lib.hid H7
                  rw [he'] at h9 H7 h0
                  clear h8 HS1 HNX he' hm
                  go_wp2_with fail
                  refine ⟨H7.out, ?_⟩
                  show ((i : Int) - 1 + 1).toNat < ((i : Int) + 1).toNat
                  omega
        · have HNG := Lib.hid (show negF s = false by
            have e := HG.out
            rw [if_neg h0, decide_eq_false hzn] at e
            exact e.symm)
          have HNF := Lib.hid (show sett false s s.length 0 (List.replicate s.length 0) = settF s by unfold settF; rw [HNG.out])
          clear HG
          go_wp2_with fail
          go_loopw [8, 9] (fun cy x wr => ∃ (k : Nat) (c : Int) (out : List Int), cy = .int .i64 c ∧ x = .int .i64 ((k : Int) - 1) ∧ k ≤ s.length ∧ out.length = s.length ∧ Hid (-1 ≤ c ∧ c ≤ 1) ∧ Hid (sett false s k c out = settF s) ∧ Hid (Below w.heap.size w wr) ∧ Hid (Blk wr w.heap.size 5 (bytesV out).toArray)) (fun _ x _ => (intOf x + 1).toNat)
          case atStart => exact ⟨s.length, 0, List.replicate s.length 0, rfl, rfl, Nat.le_refl _, by simp, ⟨by omega, by omega⟩, HNF.out, (Below.refl _ w).alloc (Nat.le_refl _) _, Blk.new w 5 _⟩
          case round =>
            obtain ⟨k, c, out, rfl, rfl, hk, ho, hcy, hse, hBl, hOb⟩ := hrel
            have hcy1 := hcy.out.1
            have hcy2 := hcy.out.2
            by_cases hk0 : k = 0
            · subst hk0
              have hd : ¬ (0 : Int) ≤ ((0 : Nat) : Int) - 1 := by omega
              go_wp2_with fail
              exact bodyPost_ret (v := .tuple #[.slice (some ⟨w.heap.size, 0, none⟩) s.length s.length, .bool false]) (by simp [results, Tryz.f107, go_sem]) rfl ⟨by rw [HNG.out], hBl.out, by have := hse.out; rw [sett] at this; rw [← this]; exact hOb.out⟩
            · obtain ⟨i, rfl⟩ : ∃ i, k = i + 1 := ⟨k - 1, by omega⟩
              have hix : ((i + 1 : Nat) : Int) - 1 = (i : Int) := by omega
              have hd : (0 : Int) ≤ (i : Int) := by omega
              obtain ⟨z, hz⟩ : ∃ z, s[i]? = some z := ⟨s[i], List.getElem?_eq_getElem (by omega)⟩
              have hcs := (hBl.out.cell (p := ⟨S, i, none⟩) (World.block_lt_of_cell? w _ (hcell.out i z hz))).trans (hcell.out i z hz)
              have hzb := h1 z (List.mem_of_getElem? hz)
              have hgd : s.getD i 0 = z := by rw [List.getD_eq_getElem?_getD, hz]; rfl
              have hco : ∃ u, wr.cell? ⟨w.heap.size, i, none⟩ = some (.int .u8 u) := ⟨out[i]'(by omega), by rw [hOb.out.cell, List.getElem?_toArray]; exact bytesV_get (List.getElem?_eq_getElem (by omega))⟩
              obtain ⟨u, hcu⟩ := hco
              have hfz := hOb.out.frozen i
              have HSE := Lib.hid hse.out
              rw [sett, hgd] at HSE
              clear hgd hse
              simp only [hix]
              obtain ⟨e, he⟩ : ∃ e : Int, e = (if false then -z else z) + c := ⟨_, rfl⟩
              have he' := he
              simp only [Bool.false_eq_true, if_false, if_true] at he'
              have HNX : Hid (∀ (e' : Int) (c' : Int), sett1 false z c = (e', c') → (-1 ≤ c' ∧ c' ≤ 1) → (∃ (k : Nat) (c : Int) (out : List Int), Value.int .i64 c' = .int .i64 c ∧ Value.int .i64 ((i : Int) - 1) = .int .i64 ((k : Int) - 1) ∧ k ≤ s.length ∧ out.length = s.length ∧ Hid (-1 ≤ c ∧ c ≤ 1) ∧ Hid (sett false s k c out = settF s) ∧ Hid (Below w.heap.size w (wr.setCell ⟨w.heap.size, i, none⟩ (.int .u8 (e' % 256)))) ∧ Hid (Blk (wr.setCell ⟨w.heap.size, i, none⟩ (.int .u8 (e' % 256))) w.heap.size 5 (bytesV out).toArray))) := by
                intro e' c' h5 hb5
                have h6 := HSE.out
                rw [h5] at h6
                refine ⟨i, c', out.set i (e' % 256), rfl, rfl, by omega, by simpa using ho, hb5, h6, hBl.out.setCell (Nat.le_refl _) _, ?_⟩
                have := hOb.out.store i (.int .u8 (e' % 256))
                rw [bytesV_set] at this
                exact this
              have HS1 : Hid (sett1 false z c = if 9 < e then (e - 10, 1) else if e < 0 then (e + 10, -1) else (e, 0)) := by show _ = _; rw [he]; rfl
              clear HSE hOb hBl he
              have hd2 : decide ((0 : Int) ≤ (i : Int)) = true := decide_eq_true hd
              by_cases h9 : 9 < e
              · have h8 := HS1.out
                rw [if_pos h9] at h8
                have H7 := Lib.hid (HNX.out _ _ h8 (by omega))
                rw [he'] at h9 H7
                clear h8 HS1 HNX he'
                go_wp2_with fail
                refine ⟨H7.out, ?_⟩
                show ((i : Int) - 1 + 1).toNat < ((i : Int) + 1).toNat
                omega
              · by_cases h0 : e < 0
                · have h8 := HS1.out
                  rw [if_neg h9, if_pos h0] at h8
                  have H7 := Lib.hid (HNX.out _ _ h8 (by omega))
                  rw [he'] at h9 H7 h0
                  clear h8 HS1 HNX he'
                  go_wp2_with fail
                  refine ⟨H7.out, ?_⟩
                  show ((i : Int) - 1 + 1).toNat < ((i : Int) + 1).toNat
                  omega
                · have h8 := HS1.out
                  rw [if_neg h9, if_neg h0] at h8
                  have H7 := HNX.out _ _ h8 (by omega)
                  have hm : e % 256 = e := by omega
                  rw [hm] at H7
                  have H7 := Lib.hid H7
                  rw [he'] at h9 H7 h0
                  clear h8 HS1 HNX he' hm
                  go_wp2_with fail
                  refine ⟨H7.out, ?_⟩
                  show ((i : Int) - 1 + 1).toNat < ((i : Int) + 1).toNat
                  omega
end Go.Proofs.YtdmbppgogdkpdaaGreatDoor
namespace Go.Proofs.YtdmbppgogdkpdaaGreatDoor
open Go.RowKit
/-- A slice of bytes that may be written. -/
structure BSl (w : World) (X o n c : Nat) (l : List Int) : Prop where
  len : l.length = n
  cap : n ≤ c
  top : c ≤ 9223372036854775807
  cells : ∃ cs : Array Value, Blk w X 5 cs ∧ ∀ (i : Nat) (b : Int), l[i]? = some b → cs[o + i]? = some (.int .u8 b)
theorem BSl.bytes {w : World} {X o n c : Nat} {l : List Int} (h : BSl w X o n c l) : BytesAt w X o l := fun i b hb => by
  obtain ⟨cs, hB, hc⟩ := h.cells
  rw [hB.cell]; exact hc i b hb
theorem BSl.frozen {w : World} {X o n c : Nat} {l : List Int} (h : BSl w X o n c l) (i : Nat) : w.frozen? ⟨X, i, none⟩ = false := by
  obtain ⟨cs, hB, hc⟩ := h.cells
  exact hB.frozen i
theorem BSl.lt {w : World} {X o n c : Nat} {l : List Int} (h : BSl w X o n c l) : X < w.heap.size := by
  obtain ⟨cs, hB, hc⟩ := h.cells
  exact hB.lt
theorem BSl.kept {w w' : World} {X o n c : Nat} {l : List Int} (h : BSl w X o n c l) (k : w'.heap[X]? = w.heap[X]?) : BSl w' X o n c l := by
  obtain ⟨h1, h2, h0, cs, hB, hc⟩ := h
  exact ⟨h1, h2, h0, cs, hB.kept k, hc⟩
theorem BSl.below {w w' : World} {X o n c : Nat} {l : List Int} (h : BSl w X o n c l) (k : Below w.heap.size w w') : BSl w' X o n c l := h.kept (k.block _ h.lt)
theorem BSl.store {w : World} {X o n c : Nat} {l : List Int} (h : BSl w X o n c l) (i : Nat) (hi : i < n) (b : Int) : BSl (w.setCell ⟨X, o + i, none⟩ (.int .u8 b)) X o n c (l.set i b) := by
  obtain ⟨h1, h2, h0, cs, hB, hc⟩ := h
  refine ⟨by simpa using h1, h2, h0, _, hB.store (o + i) (.int .u8 b), fun j d hd => ?_⟩
  have hs : o + i < cs.size := by
    have := hc i l[i] (List.getElem?_eq_getElem (by omega))
    exact (Array.getElem?_eq_some_iff.1 this).1
  rw [Array.getElem?_setIfInBounds]
  rw [List.getElem?_set] at hd
  by_cases e : i = j
  · subst e
    rw [if_pos rfl, if_pos (by omega)] at hd
    cases hd
    rw [if_pos rfl, if_pos hs]
  · rw [if_neg e] at hd
    rw [if_neg (by omega)]
    exact hc j d hd
/-- A part of it. -/
theorem BSl.part {w : World} {X o n c : Nat} {l : List Int} (h : BSl w X o n c l) (i m c' : Nat) (hi : i + m ≤ n) (hm : m ≤ c') (hc' : c' ≤ c) : BSl w X (o + i) m c' ((l.drop i).take m) := by
  obtain ⟨h1, h2, h0, cs, hB, hc⟩ := h
  refine ⟨by simp; omega, hm, by omega, cs, hB, fun j b hj => ?_⟩
  rw [List.getElem?_take] at hj
  split at hj
  · rw [List.getElem?_drop] at hj
    rw [Nat.add_assoc]; exact hc _ b hj
  · cases hj
theorem BSl.empty {w : World} {X o o' n c c' : Nat} {l : List Int} (h : BSl w X o n c l) (hc : c' ≤ 9223372036854775807) : BSl w X o' 0 c' [] := by
  obtain ⟨h1, h2, h0, cs, hB, _⟩ := h
  exact ⟨rfl, Nat.zero_le _, hc, cs, hB, fun i b hb => by simp at hb⟩
def upF (l : List Int) (m : Nat) : Bool := decide (5 < l.getD m 0) || (l.getD m 0 == 5 && (decide (0 < (bareF (l.drop (m + 1))).length) || (decide (0 < m) && l.getD (m - 1) 0 % 2 == 1)))
def incF : List Int → Nat → List Int
  | h, 0 => if h.length = 0 then [1] else h.set 0 1 ++ [0]
  | h, i + 1 => if h.getD i 0 < 9 then h.set i (h.getD i 0 + 1) else incF (h.set i 0) i
def cutF (l : List Int) (m : Nat) : List Int := if upF l m then incF (l.take m) m else l.take m
def CutP (w : World) (X : Nat) (r : List Int) (e : Ending) (w' : World) : Prop := ∃ X' o' c', e = .returned (.slice (some ⟨X', o', none⟩) r.length c') ∧ BSl w' X' o' r.length c' r ∧ Only X w w' ∧ (X' = X ∨ w.heap.size ≤ X')
theorem bytesV_append (l m : List Int) : bytesV (l ++ m) = bytesV l ++ bytesV m := List.map_append
theorem wpList_append_run {P : Program} {w w' : World} {ops : Array Oper} {rest : List Oper} {o : Oper} {a : Act} {Q : Exit → Act → World → Prop} (hgd : o.guard = none) (s x : Operand) (t tx : TypeId)
    (ho : o.op = .call { callee := .builtin .append, args := #[s, x], argTypes := #[t, tx] }) {vs vx v' : Value} (hs : a.eval s = vs) (hx : a.eval x = vx)
    (hr : (Builtin.append_ #[t, tx] o.type #[vs, vx]).run P w = .ok v' w') (h : wpList P ops Q rest (a.put o.dst v') w') : wpList P ops Q (o :: rest) a w := by
  refine wpList_plain hgd fun K hK => ?_
  unfold Oper.wp execOp
  simp only [ho, resolve, invoke, builtin, Sem.run_bind, Sem.run_pure, Result.andThen_ok, List.map_toArray, List.map_cons, List.map_nil, hs, hx, hr]
  exact hK _ _ h
theorem firstCells_bytes {P : Program} {w : World} {X o n c : Nat} {l : List Int} (h : BytesAt w X o l) (hn : l.length = n) : (Builtin.firstCells 1 n (.slice (some ⟨X, o, none⟩) n c)).run P w = .ok (bytesV l).toArray w :=
  run_firstCells_some w 1 n ⟨X, o, none⟩ n c (bytesV l) (by simp [bytesV, hn]) (fun j u hj => by
    unfold bytesV at hj
    rw [List.getElem?_map] at hj
    cases hb : l[j]? with
    | none => rw [hb] at hj; cases hj
    | some b =>
      rw [hb] at hj; cases hj
      rw [Addr.add_lit]
      exact h j b hb)
theorem bytesV_one (l : List Int) : ∀ u ∈ bytesV l, u.oneCell' = true := by
  intro u hu
  obtain ⟨x, _, rfl⟩ := List.mem_map.1 hu
  rfl
theorem srcB {w : World} {X o n c : Nat} {l : List Int} (h : BytesAt w X o l) (hn : l.length = n) : Src Tryz.prog 1 124 (.slice (some ⟨X, o, none⟩) n c) n (bytesV l) w :=
  .ofSlice w Tryz.underlying124 _ n c _ (by simp [bytesV, hn]) (fun j u hj => by
    unfold bytesV at hj
    rw [List.getElem?_map] at hj
    cases hb : l[j]? with
    | none => rw [hb] at hj; cases hj
    | some b =>
      rw [hb] at hj; cases hj
      rw [Addr.add_lit]
      exact h j b hb) (bytesV_one l)
/-- Bytes behind bytes, where there is no room. -/
theorem growB {w : World} {X o n c X' o' n' c' : Nat} {l l' : List Int} (h : BytesAt w X o l) (hn : l.length = n) (h' : BytesAt w X' o' l') (hn' : l'.length = n') (hg : c < n + n') (hm : n + n' ≤ 1000000) (ty : TypeId) :
    ∃ cap cs, (Builtin.append_ #[124, 124] ty #[.slice (some ⟨X, o, none⟩) n c, .slice (some ⟨X', o', none⟩) n' c']).run Tryz.prog w = .ok (.slice (some ⟨w.heap.size, 0, none⟩) (n + n') cap) (w.drew.alloc (.cells cs 5)) ∧ n + n' ≤ cap ∧ cap ≤ 9223372036854775807 ∧ (∀ (i : Nat) (b : Int), (l ++ l')[i]? = some b → cs[i]? = some (.int .u8 b)) := by
  obtain ⟨i0, hi, hz0, hz1, hz2⟩ := info_parts Tryz.info5n
  have hr := run_append_grow_src (P := Tryz.prog) w 124 124 ty 5 i0 (.int .u8 0) Tryz.underlying124 hi hz0 (some ⟨X, o, none⟩) n c (bytesV l) (by rw [hz1]; exact firstCells_bytes h hn) (.slice (some ⟨X', o', none⟩) n' c') n' (bytesV l') (by rw [hz1]; exact srcB h' hn') hg (by omega) (growslice_fits hg (by rw [hz2]; omega))
  refine ⟨_, _, hr, grownCap_ge _ _ _ _, grownCap_le_maxLen _ _ _ _ (by unfold maxLen; omega), fun i b hb => ?_⟩
  have hlt := (List.getElem?_eq_some_iff.1 hb).1
  rw [Array.getElem?_append_left (by simpa [bytesV] using hlt)]
  rw [List.getElem?_toArray, ← bytesV_append]
  exact bytesV_get hb
theorem bsB1 (w : World) (x : Int) : (Instr.buildSlice 124 1 #[(0, .int .u8 x)]).run Tryz.prog w = .ok (.slice (some ⟨w.heap.size, 0, none⟩) 1 1) (w.alloc (.cells #[.int .u8 x] 5)) := by
  obtain ⟨i0, hi, hi0, hi1, hi2⟩ := info_parts Tryz.info5n
  refine run_buildSlice w 124 5 1 _ _ i0 _ Tryz.underlying124 hi hi0 (by rw [hi1]; omega) (by rw [hi1]; omega) ?_
  rw [hi1]
  kernel_rfl
theorem cutF_no {l : List Int} {m : Nat} (h : upF l m = false) : cutF l m = l.take m := by unfold cutF; rw [h]; rfl
theorem cutF_up {l : List Int} {m : Nat} (h : upF l m = true) : cutF l m = incF (l.take m) m := by unfold cutF; rw [h]; rfl
set_option maxRecDepth 100000 in
set_option maxHeartbeats 4000000 in
theorem cut_c (X o n c m : Nat) (l : List Int) (w : World) (h : BSl w X o n c l) (hm : m < n) (hn : n < 1000000) (hb : ∀ b ∈ l, 0 ≤ b ∧ b ≤ 255) :
    Calls Tryz.prog 224 #[.slice (some ⟨X, o, none⟩) n c, .int .i64 m] w (CutP w X (cutF l m)) := by
  have H0 := Lib.hid h
  have hcap := h.cap
  have htop := h.top
  have hlen := h.len
  obtain ⟨r, hr⟩ : ∃ r, l[m]? = some r := ⟨l[m], List.getElem?_eq_getElem (by omega)⟩
  have hcr := H0.out.bytes m r hr
  have hrb := hb r (List.mem_of_getElem? hr)
  have hgr : Hid (l.getD m 0 = r) := by show _ = _; rw [List.getD_eq_getElem?_getD, hr]; rfl
  clear h
  go_enter Tryz.func224, Tryz.ntmps224
  go_wp2_with fail
  have HC : AllCells w.drew [(⟨X, o + m, none⟩, .int .u8 r)] := ⟨hcr, trivial⟩
  have hcr1 : w.drew.cell? ⟨X, o + m, none⟩ = some (.int .u8 r) := hcr
  clear hcr
  refine region_free _ [0, 1, 2, 3, 4, 5, 6, 7, 8] 0 (by kernel_rfl) (by kernel_rfl) (by kernel_rfl) (by kernel_rfl) (by kernel_rfl) (fun _ _ _ _ _ h => h) HC ?_
  intro hne hu
  simp only [AllCells] at hu
  simp only [pick, List.take_succ_cons, List.take_zero, List.drop_succ_cons, List.drop_zero, List.cons_append, List.nil_append]
  repeat (go_big_quiet_step (fail))
  refine wpQuiet_nil ?_
  clear hne hu
  refine ⟨by kernel_rfl, ?_⟩
  have H1 : Hid (BSl w.drew X o n c l) := H0.out.kept rfl
  have HO : Hid (Only X w w.drew) := (Only.of_below (Below.refl _ w).drew)
  go_upto_if 23 with (fail)
  go_cut [6, 7, 15, 16, 20] (fun s6 s7 s15 s16 s20 wx => s7 = .bool (upF l m) ∧ wx = w.drew)
  case first =>
    by_cases h6 : r = 5
    · subst h6
      obtain ⟨q, hq⟩ : ∃ q, (bareF (l.drop (m + 1))).length = q := ⟨_, rfl⟩
      have HQ := Lib.hid hq
      have hb1 : c - m = 1 → Calls Tryz.prog 223 #[.slice (some ⟨X, o + m, none⟩) (n - m - 1) 0] w.drew fun e w' => ∃ o' c', e = .returned (.slice (some ⟨X, o', none⟩) q c') ∧ w' = w.drew := by
        intro h1
        have h2 : n - m - 1 = 0 := by omega
        rw [h2, ← hq]
        have hnil : l.drop (m + 1) = [] := List.drop_eq_nil_of_le (by omega)
        refine (bare_c' X (o + m) 0 0 (l.drop (m + 1)) w.drew (by rw [hnil]; rfl) (Nat.le_refl _) (fun i b hib => by rw [hnil] at hib; simp at hib) (by omega)).mono fun e w' ⟨o', c', he, hw, _⟩ => ⟨o', c', he, hw⟩
      have hb2 : Calls Tryz.prog 223 #[.slice (some ⟨X, o + m + 1, none⟩) (n - m - 1) (c - m - 1)] w.drew fun e w' => ∃ o' c', e = .returned (.slice (some ⟨X, o', none⟩) q c') ∧ w' = w.drew := by
        rw [← hq]
        refine (bare_c' X (o + m + 1) (n - m - 1) (c - m - 1) (l.drop (m + 1)) w.drew (by simp; omega) (by omega) (fun i b hib => ?_) (by omega)).mono fun e w' ⟨o', c', he, hw, _⟩ => ⟨o', c', he, hw⟩
        rw [List.getElem?_drop] at hib
        have := H1.out.bytes _ _ hib
        rw [show o + m + 1 + i = o + (m + 1 + i) by omega]
        exact this
      have HB1 := Lib.hid hb1
      have HB2 := Lib.hid hb2
      clear hq hb1 hb2
      by_cases hcm : c - m = 1
      · skip
        by_cases hq0 : 0 < q
        · have HUP : upF l m = true := by
            unfold upF; rw [hgr.out, HQ.out, decide_eq_true hq0]; rfl
          go_wp2_with (go_at_call 223; refine (HB1.out (by assumption)).mono ?_; rintro e w' ⟨o', c', rfl, rfl⟩)
          go_meet
          case rel => exact ⟨by rw [HUP], rfl⟩
        · by_cases hm0 : 0 < m
          · obtain ⟨y, hy⟩ : ∃ y, l[m - 1]? = some y := ⟨l[m - 1], List.getElem?_eq_getElem (by omega)⟩
            have hyb := hb y (List.mem_of_getElem? hy)
            have hyc := H1.out.bytes _ _ hy
            have hgy : Hid (l.getD (m - 1) 0 = y) := by show _ = _; rw [List.getD_eq_getElem?_getD, hy]; rfl
            by_cases hp : y % 2 = 1
            · have HUP : Hid (upF l m = true) := by
                show _ = _
                unfold upF; rw [hgr.out, HQ.out, hgy.out, decide_eq_false hq0, decide_eq_true hm0, hp]; rfl
              have hpt : y.tmod 2 = 1 := by rw [Int.tmod_eq_emod_of_nonneg hyb.1]; exact hp
              go_wp2_with (go_at_call 223; refine (HB1.out (by assumption)).mono ?_; rintro e w' ⟨o', c', rfl, rfl⟩)
              go_meet
              case rel => exact ⟨by rw [HUP.out], rfl⟩
            · have hp0 : y % 2 = 0 := by omega
              have HUP : Hid (upF l m = false) := by
                show _ = _
                unfold upF; rw [hgr.out, HQ.out, hgy.out, decide_eq_false hq0, decide_eq_true hm0, hp0]; rfl
              have hpt : y.tmod 2 = 0 := by rw [Int.tmod_eq_emod_of_nonneg hyb.1]; exact hp0
              go_wp2_with (go_at_call 223; refine (HB1.out (by assumption)).mono ?_; rintro e w' ⟨o', c', rfl, rfl⟩)
              go_meet
              case rel => exact ⟨by rw [HUP.out], rfl⟩
          · have hm1 : m = 0 := by omega
            have hm2 : ¬ (0 : Int) < (m : Int) := by omega
            have HUP : Hid (upF l m = false) := by
              show _ = _
              unfold upF; rw [hgr.out, HQ.out, decide_eq_false hq0, decide_eq_false hm0]; rfl
            clear hm1
            go_wp2_with (go_at_call 223; refine (HB1.out (by assumption)).mono ?_; rintro e w' ⟨o', c', rfl, rfl⟩)
            go_meet
            case rel => exact ⟨by rw [HUP.out], rfl⟩
      · skip
        by_cases hq0 : 0 < q
        · have HUP : upF l m = true := by
            unfold upF; rw [hgr.out, HQ.out, decide_eq_true hq0]; rfl
          go_wp2_with (go_at_call 223; refine HB2.out.mono ?_; rintro e w' ⟨o', c', rfl, rfl⟩)
          go_meet
          case rel => exact ⟨by rw [HUP], rfl⟩
        · by_cases hm0 : 0 < m
          · obtain ⟨y, hy⟩ : ∃ y, l[m - 1]? = some y := ⟨l[m - 1], List.getElem?_eq_getElem (by omega)⟩
            have hyb := hb y (List.mem_of_getElem? hy)
            have hyc := H1.out.bytes _ _ hy
            have hgy : Hid (l.getD (m - 1) 0 = y) := by show _ = _; rw [List.getD_eq_getElem?_getD, hy]; rfl
            by_cases hp : y % 2 = 1
            · have HUP : Hid (upF l m = true) := by
                show _ = _
                unfold upF; rw [hgr.out, HQ.out, hgy.out, decide_eq_false hq0, decide_eq_true hm0, hp]; rfl
              have hpt : y.tmod 2 = 1 := by rw [Int.tmod_eq_emod_of_nonneg hyb.1]; exact hp
              go_wp2_with (go_at_call 223; refine HB2.out.mono ?_; rintro e w' ⟨o', c', rfl, rfl⟩)
              go_meet
              case rel => exact ⟨by rw [HUP.out], rfl⟩
            · have hp0 : y % 2 = 0 := by omega
              have HUP : Hid (upF l m = false) := by
                show _ = _
                unfold upF; rw [hgr.out, HQ.out, hgy.out, decide_eq_false hq0, decide_eq_true hm0, hp0]; rfl
              have hpt : y.tmod 2 = 0 := by rw [Int.tmod_eq_emod_of_nonneg hyb.1]; exact hp0
              go_wp2_with (go_at_call 223; refine HB2.out.mono ?_; rintro e w' ⟨o', c', rfl, rfl⟩)
              go_meet
              case rel => exact ⟨by rw [HUP.out], rfl⟩
          · have hm1 : m = 0 := by omega
            have hm2 : ¬ (0 : Int) < (m : Int) := by omega
            have HUP : Hid (upF l m = false) := by
              show _ = _
              unfold upF; rw [hgr.out, HQ.out, decide_eq_false hq0, decide_eq_false hm0]; rfl
            clear hm1
            go_wp2_with (go_at_call 223; refine HB2.out.mono ?_; rintro e w' ⟨o', c', rfl, rfl⟩)
            go_meet
            case rel => exact ⟨by rw [HUP.out], rfl⟩
    · have h6b : (r == 5) = false := by simpa using h6
      have HUP : Hid (upF l m = decide (5 < r)) := by
        show _ = _
        unfold upF; rw [hgr.out, h6b]; simp
      go_wp2_with fail
      go_meet
      case rel => exact ⟨by rw [HUP.out], rfl⟩
  case rest =>
    obtain ⟨rfl, rfl⟩ := hcut
    cases HUP : upF l m with
    | true =>
      go_wp2_with fail
      have HR := Lib.hid (cutF_up HUP)
      have HT : Hid (BSl w.drew X o m m (l.take m)) := by
        have := H1.out.part 0 m m (by omega) (Nat.le_refl _) (by omega)
        show BSl _ _ _ _ _ _
        simpa using this
      go_loopw [8] (fun x wr => ∃ (k : Nat) (t : List Int), x = .int .i64 ((k : Int) - 1) ∧ k ≤ m ∧ Hid (∀ b ∈ t, (0 : Int) ≤ b ∧ b ≤ 255) ∧ Hid (incF t k = incF (l.take m) m) ∧ Hid (BSl wr X o m m t) ∧ Hid (Only X w wr)) (fun x _ => (intOf x + 1).toNat)
      case atStart => exact ⟨m, l.take m, rfl, Nat.le_refl _, fun b h => hb b (List.mem_of_mem_take h), rfl, HT, HO⟩
      case round =>
        obtain ⟨k, t, rfl, hk, hrg, hg, hS, hO⟩ := hrel
        by_cases hk0 : k = 0
        · subst hk0
          have hd : ¬ (0 : Int) ≤ ((0 : Nat) : Int) - 1 := by omega
          by_cases hm0 : m = 0
          · subst hm0
            have hbs := bsB1 wr 1
            have HR2 := Lib.hid (show cutF l 0 = [1] by
              have e := hg.out
              rw [HR.out, ← e, incF, if_pos hS.out.len])
            clear hg
            go_wp2_with fail
            go_ret
            refine ⟨wr.heap.size, 0, 1, ?_, ?_, hO.out.below ((Below.refl _ wr).alloc (Nat.le_refl _) _), .inr hO.out.size⟩
            · rw [HR2.out]; rfl
            · rw [HR2.out]
              exact ⟨rfl, Nat.le_refl _, by decide, _, Blk.new wr 5 (bytesV [1]).toArray, fun i b hb => by rw [Nat.zero_add, List.getElem?_toArray]; exact bytesV_get hb⟩
          · have hmp : ¬ (m : Int) = 0 := by omega
            have hmb : ((m : Int) == 0) = false := by simpa using hmp
            have htl := hS.out.len
            obtain ⟨z, hz⟩ : ∃ z, t[0]? = some z := ⟨t[0], List.getElem?_eq_getElem (by omega)⟩
            have hc0 := hS.out.bytes 0 z hz
            have hf0 := hS.out.frozen (o + 0)
            simp only [Nat.add_zero] at hc0 hf0
            have HR2 := Lib.hid (show cutF l m = t.set 0 1 ++ [0] by
              have e := hg.out
              rw [HR.out, ← e, incF, if_neg (by omega)])
            have HS2 := Lib.hid (show BSl (wr.setCell ⟨X, o, none⟩ (.int .u8 1)) X o m m (t.set 0 1) from hS.out.store 0 (by omega) 1)
            have HO2 := Lib.hid (show Only X w (wr.setCell ⟨X, o, none⟩ (.int .u8 1)) from hO.out.store o _)
            have hbs := bsB1 (wr.setCell ⟨X, o, none⟩ (.int .u8 1)) 0
            have HA2 := Lib.hid (show Below (wr.setCell ⟨X, o, none⟩ (.int .u8 1)).heap.size (wr.setCell ⟨X, o, none⟩ (.int .u8 1)) ((wr.setCell ⟨X, o, none⟩ (.int .u8 1)).alloc (.cells #[.int .u8 0] 5)) from (Below.refl _ _).alloc (Nat.le_refl _) _)
            have HZ := Lib.hid (show BytesAt ((wr.setCell ⟨X, o, none⟩ (.int .u8 1)).alloc (.cells #[.int .u8 0] 5)) (wr.setCell ⟨X, o, none⟩ (.int .u8 1)).heap.size 0 [0] from fun i b hb => by
              have hB := (Blk.new (wr.setCell ⟨X, o, none⟩ (.int .u8 1)) 5 (bytesV [0]).toArray).cell (0 + i)
              rw [Nat.zero_add, List.getElem?_toArray, bytesV_get hb] at hB
              rw [Nat.zero_add]; exact hB)
            obtain ⟨cap, cs, hgr2, hq1, hq2, hq3⟩ := growB (n := m) (n' := 1) (HS2.out.below HA2.out).bytes (HS2.out.len) HZ.out rfl (c := m) (c' := 1) (by omega) (by omega) 124
            have hsz : (wr.setCell ⟨X, o, none⟩ (.int .u8 1)).heap.size = wr.heap.size := by simp
            rw [hsz] at hgr2
            clear hsz
            have HQ3 := Lib.hid hq3
            have HL2 := Lib.hid HS2.out.len
            rw [List.length_set, htl] at HL2
            have HF := Lib.hid (show BSl (((wr.setCell ⟨X, o, none⟩ (.int .u8 1)).alloc (.cells #[.int .u8 0] 5)).drew.alloc (.cells cs 5)) ((wr.setCell ⟨X, o, none⟩ (.int .u8 1)).alloc (.cells #[.int .u8 0] 5)).heap.size 0 (m + 1) cap (t.set 0 1 ++ [0]) from
              ⟨by simp [htl], hq1, hq2, cs, Blk.new _ 5 cs, fun i b hb => by rw [Nat.zero_add]; exact hq3 i b hb⟩)
            have HFO := Lib.hid (show Only X w (((wr.setCell ⟨X, o, none⟩ (.int .u8 1)).alloc (.cells #[.int .u8 0] 5)).drew.alloc (.cells cs 5)) from (HO2.out.below HA2.out).below (((Below.refl _ ((wr.setCell ⟨X, o, none⟩ (.int .u8 1)).alloc (.cells #[.int .u8 0] 5))).drew).alloc (Nat.le_refl _) _))
            have HFS := Lib.hid (show w.heap.size ≤ ((wr.setCell ⟨X, o, none⟩ (.int .u8 1)).alloc (.cells #[.int .u8 0] 5)).heap.size from Nat.le_trans HO2.out.size HA2.out.size)
            clear hg hq3
            go_wp2_with (at_builtin; refine wpList_append_run rfl _ _ _ _ rfl rfl rfl hgr2 ?_)
            go_ret
            have hsz2 : ((wr.setCell ⟨X, o, none⟩ (.int .u8 1)).alloc (.cells #[.int .u8 0] 5)).heap.size = wr.heap.size + 1 := by simp
            have hF := HF.out
            have hFS := HFS.out
            rw [hsz2] at hF hFS
            have hrl : (t.set 0 1 ++ [0]).length = m + 1 := by simp [htl]
            refine ⟨wr.heap.size + 1, 0, cap, ?_, ?_, HFO.out, .inr hFS⟩
            · rw [HR2.out, hrl]; rfl
            · rw [HR2.out, hrl]; exact hF
        · obtain ⟨i, rfl⟩ : ∃ i, k = i + 1 := ⟨k - 1, by omega⟩
          have hix : ((i + 1 : Nat) : Int) - 1 = (i : Int) := by omega
          have hd : (0 : Int) ≤ (i : Int) := by omega
          simp only [hix]
          have htl := hS.out.len
          obtain ⟨z, hz⟩ : ∃ z, t[i]? = some z := ⟨t[i], List.getElem?_eq_getElem (by omega)⟩
          have hcz := hS.out.bytes i z hz
          have hfz := hS.out.frozen (o + i)
          have hzb := hrg.out z (List.mem_of_getElem? hz)
          have HG := Lib.hid hg.out
          rw [incF, List.getD_eq_getElem?_getD, hz, Option.getD_some] at HG
          clear hg
          by_cases h9 : z < 9
          · have HR2 := Lib.hid (show cutF l m = t.set i (z + 1) by
              have e := HG.out
              rw [if_pos h9] at e
              rw [HR.out, ← e])
            have HS2 := Lib.hid (hS.out.store i (by omega) (z + 1))
            have HO2 := Lib.hid (hO.out.store (o + i) (.int .u8 (z + 1)))
            clear HG hS hO
            go_wp2_with fail
            go_ret
            refine ⟨X, o, m, ?_, ?_, HO2.out, .inl rfl⟩
            · rw [HR2.out, List.length_set, htl]; rfl
            · rw [HR2.out, List.length_set, htl]; exact HS2.out
          · have HG2 := Lib.hid (show incF (t.set i 0) i = incF (l.take m) m by
              have e := HG.out
              rw [if_neg h9] at e
              exact e)
            have HS2 := Lib.hid (hS.out.store i (by omega) 0)
            have HO2 := Lib.hid (hO.out.store (o + i) (.int .u8 0))
            have HRG := Lib.hid (show ∀ b ∈ t.set i 0, (0 : Int) ≤ b ∧ b ≤ 255 from fun b hb => by
              rcases List.mem_or_eq_of_mem_set hb with h | rfl
              · exact hrg.out b h
              · omega)
            clear HG hS hO hrg
            go_wp2_with fail
            go_roundw
            case rel => exact ⟨i, t.set i 0, rfl, by omega, HRG, HG2, HS2, HO2⟩
            case measure =>
              show ((i : Int) - 1 + 1).toNat < ((i : Int) + 1).toNat
              omega
    | false =>
      go_wp2_with fail
      have HR := cutF_no HUP
      go_ret
      refine ⟨X, o, m, ?_, ?_, HO.out, .inl rfl⟩
      · rw [HR]
        have : (l.take m).length = m := by simp; omega
        rw [this]; rfl
      · rw [HR]
        have : (l.take m).length = m := by simp; omega
        rw [this]
        have := H1.out.part 0 m m (by omega) (Nat.le_refl _) (by omega)
        simpa using this
end Go.Proofs.YtdmbppgogdkpdaaGreatDoor
namespace Go.Proofs.YtdmbppgogdkpdaaGreatDoor
open Go.RowKit
def trimN : Nat → Nat → Int → Nat × Int
  | 0, u, e => (u, e)
  | f + 1, u, e => if u % 10 = 0 then trimN f (u / 10) (e + 1) else (u, e)
def trimF (neg : Bool) (u : Nat) (e : Int) : Int × Int :=
  if u = 0 then (0, 0) else (if neg then -((trimN 20 u e).1 : Int) else (trimN 20 u e).1, (trimN 20 u e).2)
theorem trimN_le : ∀ (f u : Nat) (e : Int), (trimN f u e).1 ≤ u
  | 0, _, _ => Nat.le_refl _
  | f + 1, u, e => by
    unfold trimN
    split
    · exact Nat.le_trans (trimN_le f (u / 10) (e + 1)) (Nat.div_le_self _ _)
    · exact Nat.le_refl _
def NumP (w : World) (r : Int × Int) (e : Ending) (w' : World) : Prop := e = .returned (.agg #[.int .i64 r.1, .int .i64 r.2]) ∧ Below w.heap.size w w'
set_option maxRecDepth 100000 in
set_option maxHeartbeats 4000000 in
theorem trimmed_c (neg : Bool) (u : Nat) (e : Int) (hu : u < 9223372036854775808) (h1 : -1000000 ≤ e) (h2 : e ≤ 1000000) (w : World) :
    Calls Tryz.prog 225 #[.bool neg, .int .u64 u, .int .i64 e] w (NumP w (trimF neg u e)) := by
  have HB := Lib.hid ((Below.refl _ w).alloc (Nat.le_refl _) (.cells #[.int .i64 0, .int .i64 0] 39))
  by_cases h0 : u = 0
  · subst h0
    go_enter Tryz.func225, Tryz.ntmps225
    go_wp2_with fail
    exact bodyPost_ret (v := .agg #[.int .i64 0, .int .i64 0]) (by simp [results, Tryz.f225, go_sem]) rfl ⟨rfl, (Below.refl _ w).alloc (Nat.le_refl _) _⟩
  · have hub : ((u : Int) == 0) = false := by simpa using (show ¬ (u : Int) = 0 by omega)
    have hup : ¬ (u : Int) = 0 := by omega
    have HT := Lib.hid (show trimF neg u e = (if neg then -((trimN 20 u e).1 : Int) else (trimN 20 u e).1, (trimN 20 u e).2) by unfold trimF; rw [if_neg h0])
    have HU0 := Lib.hid h0
    clear h0
    go_enter Tryz.func225, Tryz.ntmps225
    go_wp2_with fail
    go_loop [1, 2] (fun x y => ∃ (v f : Nat) (d : Int), x = .int .u64 v ∧ y = .int .i64 d ∧ Hid (0 < v) ∧ v < 9223372036854775808 ∧ Hid (v < 10 ^ f ∧ f ≤ 20) ∧ -1000000 ≤ d ∧ d ≤ 1000020 - f ∧ Hid (trimN f v d = trimN 20 u e)) (fun x _ => (intOf x).toNat)
    case atStart => exact ⟨u, 20, e, rfl, rfl, Nat.pos_of_ne_zero HU0.out, hu, ⟨by omega, Nat.le_refl _⟩, h1, by omega, rfl⟩
    case round =>
      obtain ⟨v, f, d, rfl, rfl, hv, hv1, hf, hd1, hd2, ht⟩ := hrel
      by_cases hm : v % 10 = 0
      · have hmi : (v : Int) % 10 = 0 := by omega
        have HM := Lib.hid hm
        clear hm
        go_wp2_with fail
        refine ⟨⟨v / 10, f - 1, d + 1, by simp, rfl, ?_, ?_, ?_, by omega, ?_, ?_⟩, ?_⟩
        · have := hv.out; have := HM.out
          show 0 < v / 10
          omega
        · omega
        · have h3 := hf.out
          have hv0 := hv.out
          have hf0 : f ≠ 0 := fun e0 => by rw [e0] at h3; simp at h3; omega
          obtain ⟨g, rfl⟩ : ∃ g, f = g + 1 := ⟨f - 1, by omega⟩
          rw [Nat.pow_succ] at h3
          show v / 10 < 10 ^ (g + 1 - 1) ∧ g + 1 - 1 ≤ 20
          rw [Nat.add_sub_cancel]
          omega
        · have h3 := hf.out
          have hv0 := hv.out
          have hf0 : f ≠ 0 := fun e0 => by rw [e0] at h3; simp at h3; omega
          omega
        · have h3 := hf.out
          have hv0 := hv.out
          have hf0 : f ≠ 0 := fun e0 => by rw [e0] at h3; simp at h3; omega
          obtain ⟨g, rfl⟩ : ∃ g, f = g + 1 := ⟨f - 1, by omega⟩
          have h4 := ht.out
          rw [trimN, if_pos HM.out] at h4
          rw [Nat.add_sub_cancel]
          exact h4
        · have := hv.out
          simp only [intOf]
          omega
      · have hmi : ¬ (v : Int) % 10 = 0 := by omega
        have hmb : ((v : Int) % 10 == 0) = false := by simpa using hmi
        have HM := Lib.hid hm
        clear hm
        cases neg with
        | true =>
          go_wp2_with fail
          have h4 := ht.out
          have h5 : trimN f v d = (v, d) := by
            cases f with
            | zero => rfl
            | succ f => rw [trimN, if_neg HM.out]
          rw [h5] at h4
          exact bodyPost_ret (v := .agg #[.int .i64 (-(v : Int)), .int .i64 d]) (by simp [results, Tryz.f225, go_sem]) rfl ⟨by rw [HT.out, ← h4]; rfl, (Below.refl _ w).alloc (Nat.le_refl _) _⟩
        | false =>
          go_wp2_with fail
          have h4 := ht.out
          have h5 : trimN f v d = (v, d) := by
            cases f with
            | zero => rfl
            | succ f => rw [trimN, if_neg HM.out]
          rw [h5] at h4
          exact bodyPost_ret (v := .agg #[.int .i64 (v : Int), .int .i64 d]) (by simp [results, Tryz.f225, go_sem]) rfl ⟨by rw [HT.out, ← h4]; rfl, (Below.refl _ w).alloc (Nat.le_refl _) _⟩
end Go.Proofs.YtdmbppgogdkpdaaGreatDoor
namespace Go.Proofs.YtdmbppgogdkpdaaGreatDoor
open Go.RowKit
theorem incF_bytes : ∀ (k : Nat) (h : List Int), (∀ b ∈ h, 0 ≤ b ∧ b ≤ 255) → ∀ b ∈ incF h k, 0 ≤ b ∧ b ≤ 255
  | 0, h, hb, b, hm => by
    unfold incF at hm
    split at hm
    · simp at hm; omega
    · rcases List.mem_append.1 hm with h1 | h1
      · rcases List.mem_or_eq_of_mem_set h1 with h2 | h2
        · exact hb b h2
        · omega
      · simp at h1; omega
  | k + 1, h, hb, b, hm => by
    unfold incF at hm
    split at hm
    · rename_i h9
      rcases List.mem_or_eq_of_mem_set hm with h2 | h2
      · exact hb b h2
      · have : 0 ≤ h.getD k 0 := by
          rw [List.getD_eq_getElem?_getD]
          cases e : h[k]? with
          | none => simp
          | some x => exact (hb x (List.mem_of_getElem? e)).1
        omega
    · exact incF_bytes k (h.set k 0) (fun b hb2 => by
        rcases List.mem_or_eq_of_mem_set hb2 with h2 | h2
        · exact hb b h2
        · omega) b hm
theorem incF_len : ∀ (k : Nat) (h : List Int), (incF h k).length ≤ h.length + 1
  | 0, h => by
    unfold incF
    split
    · simp
    · simp
  | k + 1, h => by
    unfold incF
    split
    · simp
    · exact Nat.le_trans (incF_len k _) (by simp)
theorem cutF_bytes {l : List Int} {m : Nat} (hb : ∀ b ∈ l, 0 ≤ b ∧ b ≤ 255) : ∀ b ∈ cutF l m, 0 ≤ b ∧ b ≤ 255 := by
  unfold cutF
  split
  · exact incF_bytes m _ fun b h => hb b (List.mem_of_mem_take h)
  · exact fun b h => hb b (List.mem_of_mem_take h)
theorem cutF_len (l : List Int) (m : Nat) : (cutF l m).length ≤ m + 1 := by
  unfold cutF
  split
  · exact Nat.le_trans (incF_len m _) (by simp; omega)
  · simp; omega
theorem bareF_mem {l : List Int} {b : Int} (h : b ∈ bareF l) : b ∈ l := (List.dropWhile_sublist _).mem h
theorem bareF_drop (l : List Int) : bareF l = l.drop (l.length - (bareF l).length) := by
  obtain ⟨t, ht⟩ := List.dropWhile_suffix (l := l) (· == 0)
  have h : t ++ bareF l = l := ht
  have hl : l.length - (bareF l).length = t.length := by
    have := congrArg List.length h
    rw [List.length_append] at this
    omega
  rw [hl]
  conv => rhs; rw [← h]
  simp
def foldF (l : List Int) : Nat := l.foldl (fun a d => a * 10 + d.toNat) 0
theorem foldF_snoc (l : List Int) (d : Int) : foldF (l ++ [d]) = foldF l * 10 + d.toNat := by simp [foldF]
theorem foldl_bound : ∀ (l : List Int) (a : Nat), (∀ b ∈ l, 0 ≤ b ∧ b ≤ 255) → 9 * l.foldl (fun a d => a * 10 + d.toNat) a + 255 ≤ 9 * (a * 10 ^ l.length) + 255 * 10 ^ l.length
  | [], a, _ => by simp
  | d :: l, a, hb => by
    have h1 := foldl_bound l (a * 10 + d.toNat) fun b h => hb b (by simp [h])
    have h2 := hb d (by simp)
    have h3 : d.toNat * 10 ^ l.length ≤ 255 * 10 ^ l.length := Nat.mul_le_mul_right _ (by omega)
    rw [List.foldl_cons, List.length_cons, Nat.pow_succ]
    rw [Nat.add_mul, Nat.mul_right_comm] at h1
    rw [← Nat.mul_assoc a]
    omega
theorem foldF_bound (l : List Int) (hb : ∀ b ∈ l, 0 ≤ b ∧ b ≤ 255) : foldF l < 29 * 10 ^ l.length := by
  have h := foldl_bound l 0 hb
  have : 0 < 10 ^ l.length := Nat.pow_pos (by omega)
  unfold foldF
  omega
open Classical in
noncomputable def finF (neg : Bool) (l : List Int) (e : Int) : Option (Int × Int) := if RightN (trimF neg (foldF l) e).1 (trimF neg (foldF l) e).2 then some (trimF neg (foldF l) e) else none
noncomputable def roundB (neg : Bool) (l : List Int) (e : Int) : Option (Int × Int) :=
  if e < -40 then (if (l.length : Int) < -40 - e then some (0, 0) else finF neg (cutF l (l.length - (-40 - e).toNat)) (-40)) else finF neg l e
noncomputable def roundF (neg : Bool) (l0 : List Int) (e : Int) : Option (Int × Int) :=
  if (bareF l0).length = 0 then some (0, 0) else if 40 ≤ e then none
  else if 15 < (bareF l0).length then roundB neg (cutF (bareF l0) 15) (e + ((bareF l0).length - 15 : Nat)) else roundB neg (bareF l0) e
theorem Only.own {X Y : Nat} {w w1 : World} (h : Only X w w1) (hY : w.heap.size ≤ Y) (i : Nat) (u : Value) : Only X w (w1.setCell ⟨Y, i, none⟩ u) :=
  have b := (Below.refl 0 w1).setCell (p := ⟨Y, i, none⟩) (Nat.zero_le _) u
  ⟨b.os.trans h.os, b.tape.trans h.tape, b.output.trans h.output, Nat.le_trans h.size b.size, fun j hj hne => (Below.heap_setCell w1 ⟨Y, i, none⟩ u j (fun e => by rw [e] at hj; exact absurd hj (by simp; omega))).trans (h.block j hj hne)⟩
def put2 (W : World) (X : Nat) (a b : Value) : World := (W.setCell ⟨X, 0, none⟩ a).setCell ⟨X, 1, none⟩ b
theorem blk_put2 {W : World} {X : Nat} {ty : TypeId} {u0 u1 : Value} (h : Blk W X ty #[u0, u1]) (a b : Value) : Blk (put2 W X a b) X ty #[a, b] := by
  have := (h.store 0 a).store 1 b
  simp only [List.setIfInBounds_toArray, List.set_cons_succ, List.set_cons_zero] at this
  exact this
theorem trimN_lo : ∀ (f u : Nat) (e : Int), e ≤ (trimN f u e).2 ∧ (trimN f u e).2 ≤ e + f
  | 0, _, e => by simp [trimN]
  | f + 1, u, e => by
    unfold trimN
    split
    · have := trimN_lo f (u / 10) (e + 1)
      omega
    · simp; omega
theorem trimF_in (neg : Bool) (u : Nat) (e : Int) (hu : u < 290000000000000000) (h1 : -1000000 ≤ e) (h2 : e ≤ 1000000) : -9223372036854775808 ≤ (trimF neg u e).1 ∧ (trimF neg u e).1 ≤ 9223372036854775807 ∧ -9223372036854775808 ≤ (trimF neg u e).2 ∧ (trimF neg u e).2 ≤ 9223372036854775807 := by
  unfold trimF
  split
  · simp
  · have := trimN_le 20 u e
    have := trimN_lo 20 u e
    dsimp only
    cases neg
    · simp only [Bool.false_eq_true, if_false]; omega
    · simp only [if_true]; omega
theorem Only.put2 {X Y : Nat} {w w1 : World} (h : Only X w w1) (hY : w.heap.size ≤ Y) (a b : Value) : Only X w (put2 w1 Y a b) := (h.own hY 0 a).own hY 1 b
def optV (r : Option (Int × Int)) : Value := match r with
  | none => .tuple #[.agg #[.int .i64 0, .int .i64 0], .bool false]
  | some p => .tuple #[.agg #[.int .i64 p.1, .int .i64 p.2], .bool true]
theorem Only.comp {X X' : Nat} {w w1 w2 : World} (h : Only X w w1) (k : Only X' w1 w2) (hx : X' = X ∨ w.heap.size ≤ X') : Only X w w2 :=
  ⟨k.os.trans h.os, k.tape.trans h.tape, k.output.trans h.output, Nat.le_trans h.size k.size, fun j hj hne => (k.block j (Nat.lt_of_lt_of_le hj h.size) (by rcases hx with e | e <;> omega)).trans (h.block j hj hne)⟩
set_option maxRecDepth 100000 in
set_option maxHeartbeats 4000000 in
theorem round_c (neg : Bool) (X o n c : Nat) (l : List Int) (e : Int) (w : World) (h : BSl w X o n c l) (hn : n < 1000) (hb : ∀ b ∈ l, 0 ≤ b ∧ b ≤ 255) (h1 : -1000000 ≤ e) (h2 : e ≤ 1000000) :
    Calls Tryz.prog 108 #[.bool neg, .slice (some ⟨X, o, none⟩) n c, .int .i64 e] w fun x w' => x = .returned (optV (roundF neg l e)) ∧ Only X w w' := by
  have H0 := Lib.hid h
  have hcap := h.cap
  have htop := h.top
  have hlen := h.len
  have HO := Lib.hid ((Only.refl X w).below ((Below.refl _ w).alloc (Nat.le_refl _) (.cells #[.int .i64 0, .int .i64 0] 39)))
  have HR0 : Hid (BSl (w.alloc (.cells #[.int .i64 0, .int .i64 0] 39)) X o n c l) := H0.out.below ((Below.refl _ w).alloc (Nat.le_refl _) _)
  clear h
  have hba := bare_c' X o n c l (w.alloc (.cells #[.int .i64 0, .int .i64 0] 39)) hlen hcap HR0.out.bytes htop
  obtain ⟨q, hq⟩ : ∃ q, (bareF l).length = q := ⟨_, rfl⟩
  have HQ := Lib.hid hq
  have hqn : q ≤ n := by rw [← hq, bareF_drop, List.length_drop]; omega
  have hba2 : Calls Tryz.prog 223 #[.slice (some ⟨X, o, none⟩) n c] (w.alloc (.cells #[.int .i64 0, .int .i64 0] 39)) fun e w' => ∃ o' c', e = .returned (.slice (some ⟨X, o', none⟩) q c') ∧ w' = w.alloc (.cells #[.int .i64 0, .int .i64 0] 39) ∧ BSl (w.alloc (.cells #[.int .i64 0, .int .i64 0] 39)) X o' q c' (bareF l) := by
    refine hba.mono ?_
    rintro x w' ⟨o', c', hx, hw, hc', hcc, hoc⟩
    rw [hq] at hx hc' hoc
    refine ⟨o', c', hx, hw, ?_⟩
    rcases Nat.eq_zero_or_pos q with h0 | h0
    · have hnil : bareF l = [] := List.eq_nil_of_length_eq_zero (hq.trans h0)
      rw [hnil, h0]
      exact HR0.out.empty (by omega)
    · have := HR0.out.part (n - q) q c' (by omega) hc' (by have := hoc h0; omega)
      have he : o + (n - q) = o' := by have := hoc h0; omega
      rw [he] at this
      have e2 : (l.drop (n - q)).take q = bareF l := by
        have e3 := bareF_drop l
        rw [hq, hlen] at e3
        rw [← e3, List.take_of_length_le (by omega)]
      rw [e2] at this
      exact this
  have HBA := Lib.hid hba2
  clear hba hba2 hq
  have hXw : X ≠ w.heap.size := by have := H0.out.lt; omega
  have HXB := Lib.hid (Blk.new w 39 #[.int .i64 0, .int .i64 0])
  by_cases hq0 : q = 0
  · subst hq0
    have HF := Lib.hid (show roundF neg l e = some (0, 0) by unfold roundF; rw [if_pos HQ.out])
    go_enter Tryz.func108, Tryz.ntmps108
    go_wp2_with (go_at_call 223; refine HBA.out.mono ?_; rintro x w1 ⟨o1, c1, rfl, rfl, hB1⟩)
    exact bodyPost_ret (v := .tuple #[.agg #[.int .i64 0, .int .i64 0], .bool true]) (by simp [results, Tryz.f108, go_sem]) rfl ⟨by rw [HF.out]; rfl, HO.out⟩
  · have hqb : ((q : Int) == 0) = false := by simpa using hq0
    have hqi : ¬ (q : Int) = 0 := by omega
    have HQ0 := Lib.hid hq0
    clear hq0
    by_cases h40 : 40 ≤ e
    · have HF := Lib.hid (show roundF neg l e = none by unfold roundF; rw [HQ.out, if_neg HQ0.out, if_pos h40])
      go_enter Tryz.func108, Tryz.ntmps108
      go_wp2_with (go_at_call 223; refine HBA.out.mono ?_; rintro x w1 ⟨o1, c1, rfl, rfl, hB1⟩)
      exact bodyPost_ret (v := .tuple #[.agg #[.int .i64 0, .int .i64 0], .bool false]) (by simp [results, Tryz.f108, go_sem]) rfl ⟨by rw [HF.out]; rfl, HO.out⟩
    · have H40 := Lib.hid h40
      go_enter Tryz.func108, Tryz.ntmps108
      go_upto_if 27 with (go_at_call 223; refine HBA.out.mono ?_; rintro x w1 ⟨o1, c1, rfl, rfl, hB1⟩)
      go_cut [1, 2] (fun s1 s2 wx => ∃ (X1 o1 c1 n1 : Nat) (l1 : List Int) (e1 : Int), s1 = .slice (some ⟨X1, o1, none⟩) n1 c1 ∧ s2 = .int .i64 e1 ∧ -1000000 ≤ e1 ∧ e1 ≤ 10000 ∧ n1 ≤ 16 ∧ Hid (BSl wx X1 o1 n1 c1 l1) ∧ Hid (∀ b ∈ l1, 0 ≤ b ∧ b ≤ 255) ∧ Hid (Only X w wx) ∧ Hid (X1 = X ∨ w.heap.size < X1) ∧ Hid (Blk wx w.heap.size 39 #[.int .i64 0, .int .i64 0]) ∧ Hid (roundF neg l e = roundB neg l1 e1))
      case first =>
        by_cases h15 : 15 < q
        · have h15i : (15 : Int) < (q : Int) := by omega
          go_wp2_with fail
          have HC := Lib.hid (cut_c X o1 q c1 15 (bareF l) (w.alloc (.cells #[.int .i64 0, .int .i64 0] 39)) hB1 h15 (by omega) (fun b h => hb b (bareF_mem h)))
          have HRF := Lib.hid (show roundF neg l e = roundB neg (cutF (bareF l) 15) (e + ((q - 15 : Nat) : Int)) by
            unfold roundF; rw [HQ.out, if_neg HQ0.out, if_neg (show ¬ 40 ≤ e by omega), if_pos h15])
          have HCL := Lib.hid (cutF_len (bareF l) 15)
          clear hB1
          go_at_call 224
          refine HC.out.mono ?_
          rintro x w2 ⟨X1, o2, c2, rfl, hS, hO2, hX1⟩
          go_wp2_with fail
          go_meet
          case rel =>
            refine ⟨X1, o2, c2, _, cutF (bareF l) 15, e + ((q - 15 : Nat) : Int), rfl, ?_, by omega, by omega, HCL.out, hS, cutF_bytes fun b h => hb b (bareF_mem h), HO.out.trans hO2, ?_, HXB.out.kept (hO2.block _ HXB.out.lt (fun e => hXw e.symm)), HRF.out⟩
            · congr 1; omega
            · rcases hX1 with h | h
              · exact .inl h
              · simp only [World.size_alloc] at h; exact .inr (by omega)
        · have h15i : ¬ (15 : Int) < (q : Int) := by omega
          go_wp2_with fail
          go_meet
          case rel =>
            exact ⟨X, o1, c1, q, bareF l, e, rfl, rfl, by omega, by omega, by omega, hB1, fun b h => hb b (bareF_mem h), HO.out, .inl rfl, HXB.out, by show _ = _; unfold roundF; rw [HQ.out, if_neg HQ0.out, if_neg (show ¬ 40 ≤ e by omega), if_neg h15]⟩
      case rest =>
        obtain ⟨X1, o1, c1, n1, l1, e1, rfl, rfl, he1, he2, hn1, hS, hby, hOn, hX1, hBk, hrf⟩ := hcut
        have hX1w : X1 ≠ w.heap.size := by rcases hX1.out with h | h <;> omega
        have hl1 : Hid (l1.length = n1) := hS.out.len
        go_upto_if 34 with fail
        go_cut [1, 2] (fun s1 s2 wx => ∃ (X1 o1 c1 n1 : Nat) (l1 : List Int) (e1 : Int), s1 = .slice (some ⟨X1, o1, none⟩) n1 c1 ∧ s2 = .int .i64 e1 ∧ -40 ≤ e1 ∧ e1 ≤ 10000 ∧ n1 ≤ 16 ∧ Hid (BytesAt wx X1 o1 l1) ∧ Hid (l1.length = n1) ∧ Hid (∀ b ∈ l1, 0 ≤ b ∧ b ≤ 255) ∧ Hid (Only X w wx) ∧ Hid (Blk wx w.heap.size 39 #[.int .i64 0, .int .i64 0]) ∧ Hid (roundF neg l e = finF neg l1 e1))
        case first =>
          by_cases h4 : e1 < -40
          · by_cases h5 : (n1 : Int) < -40 - e1
            · have HRF := Lib.hid (show roundF neg l e = some (0, 0) by
                rw [hrf.out, roundB, if_pos h4, hl1.out, if_pos h5])
              have k0 := hBk.out.cell 0
              have k1 := hBk.out.cell 1
              have f0 := hBk.out.frozen 0
              have f1 := hBk.out.frozen 1
              simp only [List.getElem?_toArray, List.getElem?_cons_zero, List.getElem?_cons_succ] at k0 k1
              go_wp2_with fail
              change bodyPost _ _ _ _ _ (put2 wc w.heap.size (.int .i64 0) (.int .i64 0))
              have bX2 := blk_put2 hBk.out (.int .i64 0) (.int .i64 0)
              have HO9 := Lib.hid (Only.put2 hOn.out (Nat.le_refl _) (.int .i64 0) (.int .i64 0))
              generalize put2 wc w.heap.size (.int .i64 0) (.int .i64 0) = W2 at *
              have d0 := bX2.cell 0
              have d1 := bX2.cell 1
              simp only [List.getElem?_toArray, List.getElem?_cons_zero, List.getElem?_cons_succ] at d0 d1
              exact bodyPost_ret (v := .tuple #[.agg #[(.int .i64 0), (.int .i64 0)], .bool true]) (by simp [results, Tryz.f108, go_sem, d0, d1]) rfl ⟨by rw [HRF.out]; rfl, HO9.out⟩
            · have HRF := Lib.hid (show roundF neg l e = finF neg (cutF l1 (n1 - (-40 - e1).toNat)) (-40) by
                rw [hrf.out, roundB, if_pos h4, hl1.out, if_neg h5])
              obtain ⟨m, hm⟩ : ∃ m : Nat, n1 - (-40 - e1).toNat = m := ⟨_, rfl⟩
              rw [hm] at HRF
              have hmi : (n1 : Int) - (-40 - e1) = (m : Int) := by omega
              have hmn : m < n1 := by omega
              have HC := Lib.hid (cut_c X1 o1 n1 c1 m l1 wc hS.out hmn (by omega) hby.out)
              have HCL := Lib.hid (Nat.le_trans (cutF_len l1 m) hmn)
              clear hm
              go_wp2_with (go_at_call 224; refine HC.out.mono ?_; rintro x w2 ⟨X2, o2, c2, rfl, hS2, hO2, hX2⟩)
              go_meet
              case rel =>
                refine ⟨X2, o2, c2, _, cutF l1 m, -40, rfl, rfl, by omega, by omega, Nat.le_trans HCL.out hn1, hS2.bytes, rfl, cutF_bytes hby.out, hOn.out.comp hO2 ?_, hBk.out.kept (hO2.block _ hBk.out.lt (fun e => hX1w e.symm)), HRF.out⟩
                rcases hX1.out with h | h
                · exact .inl h
                · exact .inr (by omega)
          · go_wp2_with fail
            go_meet
            case rel => exact ⟨X1, o1, c1, n1, l1, e1, rfl, rfl, by omega, by omega, hn1, hS.out.bytes, hl1.out, hby.out, hOn.out, hBk.out, by show _ = _; rw [hrf.out, roundB, if_neg (show ¬ e1 < -40 by omega)]⟩
        case rest =>
          obtain ⟨X2, o2, c2, n2, l2, e2, rfl, rfl, he3, he4, hn2, hS2, hl2, hby2, hOn2, hBk2, hrf2⟩ := hcut
          go_wp2_with fail
          go_loop [10, 50] (fun x y => ∃ (k A : Nat), x = .int .u64 A ∧ y = .int .i64 k ∧ k ≤ n2 ∧ A < 290000000000000000 ∧ Hid (A = foldF (l2.take k))) (fun _ y => n2 - (intOf y).toNat)
          case atStart => exact ⟨0, 0, rfl, rfl, Nat.zero_le _, by omega, by show _ = _; simp [foldF]⟩
          case round =>
            obtain ⟨k, A, rfl, rfl, hk, hA, hAf⟩ := hrel
            by_cases hkn : k = n2
            · have hd : ¬ (k : Int) < (n2 : Int) := by omega
              have HA : Hid (A = foldF l2) := by
                show _ = _
                have := hAf.out
                rw [List.take_of_length_le (by have := hl2.out; omega)] at this
                exact this
              have HTR := Lib.hid (trimmed_c neg A e2 (by omega) (by omega) (by omega) wc)
              have HIN := trimF_in neg A e2 hA (by omega) (by omega)
              have HFI : Hid ((RightN (trimF neg A e2).1 (trimF neg A e2).2 → roundF neg l e = some (trimF neg A e2)) ∧ (¬ RightN (trimF neg A e2).1 (trimF neg A e2).2 → roundF neg l e = none)) := by
                rw [hrf2.out, finF, ← HA.out]
                exact ⟨fun h => by rw [if_pos h], fun h => by rw [if_neg h]⟩
              generalize trimF neg A e2 = tr at *
              obtain ⟨tm, te⟩ := tr
              simp only at HIN HFI
              have HTR2 : Hid (Calls Tryz.prog 225 #[.bool neg, .int .u64 A, .int .i64 e2] wc fun x w' => x = .returned (.agg #[.int .i64 tm, .int .i64 te]) ∧ Below wc.heap.size wc w') := HTR.out
              clear HTR hAf HA
              have hA2 := hA
              go_wp2_with (go_at_call 225; refine HTR2.out.mono ?_; rintro x w3 ⟨rfl, hB3⟩)
              have HO3 := Lib.hid (hOn2.out.below hB3)
              have hBk3 := Lib.hid (hBk2.out.kept (hB3.block _ hBk2.out.lt))
              have h3s := Lib.hid (Nat.lt_of_lt_of_le hBk2.out.lt hB3.size)
              clear hB3
              obtain ⟨i1, i2, i3, i4⟩ := HIN
              have HB4 := Lib.hid ((Below.refl _ w3).alloc (Nat.le_refl _) (.cells #[.int .i64 tm, .int .i64 te] 39))
              have hBx := Lib.hid (Blk.new w3 39 #[.int .i64 tm, .int .i64 te])
              refine (nright_c tm te i1 i2 i3 i4 _).mono ?_
              rintro x w5 ⟨b, rfl, hbb, hB5⟩
              have hBx5 := Lib.hid (hBx.out.kept (hB5.block _ hBx.out.lt))
              have hBk5 := Lib.hid ((hBk3.out.kept (HB4.out.block _ hBk3.out.lt)).kept (hB5.block _ (hBk3.out.alloc _).lt))
              have HO5 := Lib.hid ((HO3.out.below HB4.out).below hB5)
              have HBB := Lib.hid hbb
              clear hB5 hbb
              have g0 := hBx5.out.cell 0
              have g1 := hBx5.out.cell 1
              simp only [List.getElem?_toArray, List.getElem?_cons_zero, List.getElem?_cons_succ] at g0 g1
              have k0 := hBk5.out.cell 0
              have k1 := hBk5.out.cell 1
              have f0 := hBk5.out.frozen 0
              have f1 := hBk5.out.frozen 1
              simp only [List.getElem?_toArray, List.getElem?_cons_zero, List.getElem?_cons_succ] at k0 k1
              cases b with
              | true =>
                have HFF := Lib.hid (HFI.out.1 (HBB.out.1 rfl))
                go_wp2_with fail
                change bodyPost _ _ _ _ _ (put2 w5 w.heap.size (.int .i64 tm) (.int .i64 te))
                have bX2 := blk_put2 hBk5.out (.int .i64 tm) (.int .i64 te)
                have HO9 := Lib.hid (Only.put2 HO5.out (Nat.le_refl _) (.int .i64 tm) (.int .i64 te))
                generalize put2 w5 w.heap.size (.int .i64 tm) (.int .i64 te) = W2 at *
                have d0 := bX2.cell 0
                have d1 := bX2.cell 1
                simp only [List.getElem?_toArray, List.getElem?_cons_zero, List.getElem?_cons_succ] at d0 d1
                exact bodyPost_ret (v := .tuple #[.agg #[(.int .i64 tm), (.int .i64 te)], .bool true]) (by simp [results, Tryz.f108, go_sem, d0, d1]) rfl ⟨by rw [HFF.out]; rfl, HO9.out⟩
              | false =>
                have HFF := Lib.hid (HFI.out.2 (fun h => Bool.false_ne_true (HBB.out.2 h)))
                go_wp2_with fail
                change bodyPost _ _ _ _ _ (put2 w5 w.heap.size (.int .i64 0) (.int .i64 0))
                have bX2 := blk_put2 hBk5.out (.int .i64 0) (.int .i64 0)
                have HO9 := Lib.hid (Only.put2 HO5.out (Nat.le_refl _) (.int .i64 0) (.int .i64 0))
                generalize put2 w5 w.heap.size (.int .i64 0) (.int .i64 0) = W2 at *
                have d0 := bX2.cell 0
                have d1 := bX2.cell 1
                simp only [List.getElem?_toArray, List.getElem?_cons_zero, List.getElem?_cons_succ] at d0 d1
                exact bodyPost_ret (v := .tuple #[.agg #[(.int .i64 0), (.int .i64 0)], .bool false]) (by simp [results, Tryz.f108, go_sem, d0, d1]) rfl ⟨by rw [HFF.out]; rfl, HO9.out⟩
            · have hd : (k : Int) < (n2 : Int) := by omega
              have hl2' := hl2.out
              obtain ⟨d, hld⟩ : ∃ d, l2[k]? = some d := ⟨l2[k], List.getElem?_eq_getElem (by omega)⟩
              have hcd := hS2.out k d hld
              have hdb := hby2.out d (List.mem_of_getElem? hld)
              have HN : Hid (A * 10 + d.toNat = foldF (l2.take (k + 1))) := by
                show _ = _
                rw [List.take_add_one, hld, Option.toList_some, foldF_snoc, ← hAf.out]
              have HNB := Lib.hid (foldF_bound (l2.take (k + 1)) fun b h => hby2.out b (List.mem_of_mem_take h))
              clear hl2'
              go_wp2_with fail
              refine ⟨⟨k + 1, A * 10 + d.toNat, by congr 1; omega, rfl, by omega, ?_, HN.out⟩, ?_⟩
              · have h9 := HNB.out
                rw [← HN.out] at h9
                have h8 : (l2.take (k + 1)).length ≤ 16 := by simp; omega
                have h7 : 10 ^ (l2.take (k + 1)).length ≤ 10 ^ 16 := Nat.pow_le_pow_right (by omega) h8
                omega
              · simp only [intOf]; omega
end Go.Proofs.YtdmbppgogdkpdaaGreatDoor
