/-
  Numbers told by counting: differences and products of small whole numbers, reckoned by the program's own rule. No condition beyond the sizes.
  oper.Binary at - and * over single counts; Lib.Call at COLUMNS over a row; what a call of the law's closure tells. Conditions: the sizes; the table of powers of ten reads as the program lays it; internal/bytealg.MaxLen holds some int.
-/
import Derived.Test.YtdmbppgogdkpdaaGreatDoorZ9
set_option linter.unusedSectionVars false
namespace Go.Proofs.YtdmbppgogdkpdaaGreatDoor
open Go.RowKit
namespace Num
def digN : Nat → Nat → List Int
  | 0, u => [(u : Int)]
  | f + 1, u => if u < 10 then [(u : Int)] else digN f (u / 10) ++ [((u % 10 : Nat) : Int)]
theorem dig_one (x : Nat) (hx : x < 10) : ((UInt8.ofNat (48 + x)).toNat : Int) - 48 = (x : Int) := by
  rw [UInt8.toNat_ofNat', Nat.mod_eq_of_lt (by omega)]
  omega
theorem digL_small {u : Nat} (h : u < 10) : digL u = [(u : Int)] := by
  unfold digL
  rw [Lib.decDigits, dif_pos h, List.map_cons, List.map_nil, dig_one u h]
theorem digL_big {u : Nat} (h : ¬ u < 10) : digL u = digL (u / 10) ++ [((u % 10 : Nat) : Int)] := by
  unfold digL
  rw [Lib.decDigits, dif_neg h, List.map_append, List.map_cons, List.map_nil, dig_one _ (Nat.mod_lt _ (by omega))]
theorem digN_eq : ∀ (f u : Nat), u < 10 ^ (f + 1) → digL u = digN f u
  | 0, u, h => digL_small (by simpa using h)
  | f + 1, u, h => by
    by_cases hu : u < 10
    · rw [digL_small hu, digN, if_pos hu]
    · rw [digL_big hu, digN, if_neg hu, digN_eq f (u / 10) (by rw [Nat.pow_succ] at h; omega)]
def rightB (m e : Int) : Bool := (!(m == 0) || e == 0) && decide (-1000000000000000 < m) && decide (m < 1000000000000000) && ((m == 0) || !(m % 10 == 0)) && decide (-40 ≤ e) && ((m == 0) || decide ((ndig m.natAbs : Int) + e ≤ 40))
theorem rightB_iff (m e : Int) : rightB m e = true ↔ RightN m e := by
  unfold rightB
  constructor
  · intro h
    simp only [Bool.and_eq_true, Bool.or_eq_true, Bool.not_eq_true', beq_eq_false_iff_ne, beq_iff_eq, decide_eq_true_eq] at h
    obtain ⟨⟨⟨⟨⟨h1, h2⟩, h3⟩, h4⟩, h5⟩, h6⟩ := h
    exact ⟨fun e => h1.resolve_left fun k => k e, h2, h3, fun e => h4.resolve_left e, h5, fun e => h6.resolve_left e⟩
  · intro h
    simp only [Bool.and_eq_true, Bool.or_eq_true, Bool.not_eq_true', beq_eq_false_iff_ne, beq_iff_eq, decide_eq_true_eq]
    refine ⟨⟨⟨⟨⟨?_, h.lo⟩, h.hi⟩, ?_⟩, h.elo⟩, ?_⟩
    · by_cases k : m = 0
      · exact .inr (h.zero k)
      · exact .inl k
    · by_cases k : m = 0
      · exact .inl k
      · exact .inr (h.mod k)
    · by_cases k : m = 0
      · exact .inl k
      · exact .inr (h.top k)
def finC (neg : Bool) (l : List Int) (e : Int) : Option (Int × Int) := if rightB (trimF neg (foldF l) e).1 (trimF neg (foldF l) e).2 then some (trimF neg (foldF l) e) else none
theorem fin_eq (neg : Bool) (l : List Int) (e : Int) : finF neg l e = finC neg l e := by
  unfold finF finC
  by_cases h : RightN (trimF neg (foldF l) e).1 (trimF neg (foldF l) e).2
  · rw [if_pos h, if_pos ((rightB_iff _ _).2 h)]
  · rw [if_neg h, if_neg (fun k => h ((rightB_iff _ _).1 k))]
def roundBC (neg : Bool) (l : List Int) (e : Int) : Option (Int × Int) :=
  if e < -40 then (if (l.length : Int) < -40 - e then some (0, 0) else finC neg (cutF l (l.length - (-40 - e).toNat)) (-40)) else finC neg l e
def roundC (neg : Bool) (l0 : List Int) (e : Int) : Option (Int × Int) :=
  if (bareF l0).length = 0 then some (0, 0) else if 40 ≤ e then none
  else if 15 < (bareF l0).length then roundBC neg (cutF (bareF l0) 15) (e + ((bareF l0).length - 15 : Nat)) else roundBC neg (bareF l0) e
theorem round_eq (neg : Bool) (l0 : List Int) (e : Int) : roundF neg l0 e = roundC neg l0 e := by
  simp only [roundF, roundC, roundB, roundBC, fin_eq]
def spreadC (m e low : Int) : List Int := digN 20 m.natAbs ++ List.replicate (e - low).toNat 0
def sumC (m1 e1 m2 e2 : Int) : List Int :=
  let low := min e1 e2
  let x := spreadC m1 e1 low
  let y := spreadC m2 e2 low
  let n := max x.length y.length + 1
  gath (decide (m2 < 0)) (gath (decide (m1 < 0)) (List.replicate n 0) (n - x.length) x) (n - y.length) y
def addC (m1 e1 m2 e2 : Int) : Option (Int × Int) := roundC (negF (sumC m1 e1 m2 e2)) (settF (sumC m1 e1 m2 e2)) (min e1 e2)
theorem add_eq (m1 e1 m2 e2 : Int) (h1 : m1.natAbs < 10 ^ 21) (h2 : m2.natAbs < 10 ^ 21) : addF m1 e1 m2 e2 = addC m1 e1 m2 e2 := by
  have hs : sumF m1 e1 m2 e2 = sumC m1 e1 m2 e2 := by
    simp only [sumF, sumC, spreadF, spreadC, digN_eq 20 _ h1, digN_eq 20 _ h2]
  simp only [addF, addC, hs, round_eq]
def wholeC (n : Nat) : Int × Int := (roundC false (digN 20 n) 0).getD (0, 0)
theorem whole_eq (n : Nat) (h : n < 10 ^ 21) : wholeF n = wholeC n := by
  unfold wholeF wholeC makeF
  rw [round_eq, digN_eq 20 _ h]
def mulC (m1 e1 m2 e2 : Int) : Option (Int × Int) := roundC (!(decide (m1 < 0) == decide (m2 < 0))) (digN 20 0 ++ (digN 20 (1000000000000000 + m1.natAbs * m2.natAbs)).drop 1) (e1 + e2)
theorem mul_eq (m1 e1 m2 e2 : Int) (h : m1.natAbs * m2.natAbs < 1000000000000000) : mulF m1 e1 m2 e2 0 (m1.natAbs * m2.natAbs) = mulC m1 e1 m2 e2 := by
  unfold mulF mulC
  rw [round_eq, digN_eq 20 _ (by decide), digN_eq 20 _ (by omega)]
def isC (a : Option (Int × Int)) (p : Int × Int) : Bool := match a with
  | some q => q.1 == p.1 && q.2 == p.2
  | none => false
theorem isC_eq {a : Option (Int × Int)} {p : Int × Int} (h : isC a p = true) : a = some p := by
  unfold isC at h
  split at h
  · simp only [Bool.and_eq_true, beq_iff_eq] at h
    rw [Prod.ext h.1 h.2]
  · cases h
def subsB (L : Nat) : Bool := (List.range (L + 1)).all fun k => isC (addC (wholeC L).1 (wholeC L).2 (-(wholeC k).1) (wholeC k).2) (wholeC (L - k))
theorem subs_ok : ((List.range 101).all subsB) = true := by kernel_rfl
theorem one_is : wholeC 1 = (1, 0) := by kernel_rfl
def succB (m : Nat) : Bool := isC (addC (wholeC (m + 1)).1 (wholeC (m + 1)).2 (-1) 0) (wholeC m)
theorem succ_ok : ((List.range 101).all succB) = true := by kernel_rfl
def mulsB (m : Nat) : Bool := (List.range 101).all fun k => Nat.blt 100 (m * k) || isC (mulC (wholeC m).1 (wholeC m).2 (wholeC k).1 (wholeC k).2) (wholeC (m * k))
theorem muls_ok : ((List.range 101).all mulsB) = true := by kernel_rfl
theorem wholes_ok : ((List.range 102).all fun n => decide ((wholeC n).1.natAbs ≤ 255) && rightB (wholeC n).1 (wholeC n).2) = true := by kernel_rfl
end Num
open Num
theorem whole_le {n : Nat} (h : n ≤ 101) : (wholeF n).1.natAbs ≤ 255 := by
  rw [whole_eq n (by omega)]
  have := List.all_eq_true.1 wholes_ok n (List.mem_range.2 (by omega))
  simp only [Bool.and_eq_true, decide_eq_true_eq] at this
  exact this.1
theorem sub_whole {L k : Nat} (hL : L ≤ 100) (hk : k ≤ L) : subF (wholeF L).1 (wholeF L).2 (wholeF k).1 (wholeF k).2 = some (wholeF (L - k)) := by
  have h1 := whole_le (show L ≤ 101 by omega)
  have h2 := whole_le (show k ≤ 101 by omega)
  unfold subF
  rw [add_eq _ _ _ _ (by omega) (by omega)]
  rw [whole_eq L (by omega), whole_eq k (by omega), whole_eq (L - k) (by omega)]
  exact isC_eq (List.all_eq_true.1 (List.all_eq_true.1 subs_ok L (List.mem_range.2 (by omega))) k (List.mem_range.2 (by omega)))
theorem sub_one {m : Nat} (hm : m ≤ 100) : subF (wholeF (m + 1)).1 (wholeF (m + 1)).2 1 0 = some (wholeF m) := by
  have h1 := whole_le (show m + 1 ≤ 101 by omega)
  unfold subF
  rw [add_eq _ _ _ _ (by omega) (by decide), whole_eq (m + 1) (by omega), whole_eq m (by omega)]
  exact isC_eq (List.all_eq_true.1 succ_ok m (List.mem_range.2 (by omega)))
theorem mul_whole {m k : Nat} (hm : m ≤ 100) (hk : k ≤ 100) (h : m * k ≤ 100) : mulF (wholeF m).1 (wholeF m).2 (wholeF k).1 (wholeF k).2 0 ((wholeF m).1.natAbs * (wholeF k).1.natAbs) = some (wholeF (m * k)) := by
  have h1 := whole_le (show m ≤ 101 by omega)
  have h2 := whole_le (show k ≤ 101 by omega)
  have h3 : (wholeF m).1.natAbs * (wholeF k).1.natAbs ≤ 255 * 255 := Nat.mul_le_mul h1 h2
  rw [mul_eq _ _ _ _ (by omega), whole_eq m (by omega), whole_eq k (by omega), whole_eq (m * k) (by omega)]
  have := List.all_eq_true.1 (List.all_eq_true.1 muls_ok m (List.mem_range.2 (by omega))) k (List.mem_range.2 (by omega))
  simp only [Bool.or_eq_true, Nat.blt_eq] at this
  exact isC_eq (this.resolve_left (by omega))
end Go.Proofs.YtdmbppgogdkpdaaGreatDoor
namespace Go.Proofs.YtdmbppgogdkpdaaGreatDoor
open Go.RowKit
def oneNum : Val := okV (1, 0)
theorem oneNum_right : RightV oneNum := toldV_right (p := (1, 0)) (ok := true) (fun _ => by rw [← Num.one_is, ← Num.whole_eq 1 (by decide)]; exact wholeF_right 1)
theorem oneNum_fits : FitsV oneNum := by
  have := (wholeF_right 1).fits
  rw [Num.whole_eq 1 (by decide), Num.one_is] at this
  exact this
theorem arrOne {W : World} {A : Option Addr} {x : Val} (h : ManyR Val.cs 6 W A [x]) (hr : RightV x) (hf : FitsV x) : ArrR W 1 1 A 1 [x] :=
  ⟨h, rfl, by decide, fun v hv => by rw [List.mem_singleton.1 hv]; exact hf, by omega, by omega, by rfl, fun v hv => by rw [List.mem_singleton.1 hv]; exact hr⟩
theorem binOne {w : World} {z x y : Val} {e : Ending} {w' : World} (h : BinP w (fun _ _ => z) 1 1 [x] 1 1 [y] e w') : CallA w 1 1 [z] e w' := by
  unfold BinP at h
  rw [if_pos (by rfl)] at h
  exact h
theorem opSub (p q z : Int × Int) (hp : RightN p.1 p.2) (hq : RightN q.1 q.2) (hz : RightN z.1 z.2) (hnf : NumFn 63 p q (some z)) (A A' : Option Addr) (ca ca' : Nat) (w : World) (h : ManyR Val.cs 6 w A [okV p]) (h' : ManyR Val.cs 6 w A' [okV q]) (htab : PowT w) :
    Calls Tryz.prog 21 #[.string ⟨#[45]⟩, .agg #[.int .i64 1, .int .i64 1, .slice A 1 ca], .agg #[.int .i64 1, .int .i64 1, .slice A' 1 ca']] w (CallA w 1 1 [okV z]) := by
  have rv : ∀ {p : Int × Int}, RightN p.1 p.2 → RightV (okV p) := fun {p} hp => toldV_right (p := p) (ok := true) (fun _ => hp)
  refine (binSub_c 1 1 1 1 A A' 1 ca 1 ca' [okV p] [okV q] w (arrOne h (rv hp) hp.fits) (arrOne h' (rv hq) hq.fits) (fun _ _ => okV z) fun W x hW hx => ⟨fun a ha b hb => ?_⟩).mono fun e w' k => binOne k
  obtain rfl := List.mem_singleton.1 ha
  obtain rfl := List.mem_singleton.1 hb
  refine ⟨fun W2 hW2 => ?_, rv hz, hz.fits⟩
  have hb2 := hx.next hW2
  refine (reckonSub_c (okV p) (okV q) p q 0 0 (some z) x (toNum_num _ _ _ _ _) (toNum_num _ _ _ _ _) (fun _ _ => hnf) W2 ((htab.next hW).next hW2) hb2.1).mono ?_
  rintro e w' ⟨rfl, hB⟩
  exact ⟨rfl, hB⟩
theorem opMul (p q z : Int × Int) (hp : RightN p.1 p.2) (hq : RightN q.1 q.2) (hz : RightN z.1 z.2) (hnf : NumFn 64 p q (some z)) (A A' : Option Addr) (ca ca' : Nat) (w : World) (h : ManyR Val.cs 6 w A [okV p]) (h' : ManyR Val.cs 6 w A' [okV q]) (htab : PowT w) :
    Calls Tryz.prog 21 #[.string ⟨#[42]⟩, .agg #[.int .i64 1, .int .i64 1, .slice A 1 ca], .agg #[.int .i64 1, .int .i64 1, .slice A' 1 ca']] w (CallA w 1 1 [okV z]) := by
  have rv : ∀ {p : Int × Int}, RightN p.1 p.2 → RightV (okV p) := fun {p} hp => toldV_right (p := p) (ok := true) (fun _ => hp)
  refine (binMul_c 1 1 1 1 A A' 1 ca 1 ca' [okV p] [okV q] w (arrOne h (rv hp) hp.fits) (arrOne h' (rv hq) hq.fits) (fun _ _ => okV z) fun W x hW hx => ⟨fun a ha b hb => ?_⟩).mono fun e w' k => binOne k
  obtain rfl := List.mem_singleton.1 ha
  obtain rfl := List.mem_singleton.1 hb
  refine ⟨fun W2 hW2 => ?_, rv hz, hz.fits⟩
  have hb2 := hx.next hW2
  refine (reckonMul_c (okV p) (okV q) p q 0 0 (some z) x (toNum_num _ _ _ _ _) (toNum_num _ _ _ _ _) (fun _ _ => hnf) W2 ((htab.next hW).next hW2) hb2.1).mono ?_
  rintro e w' ⟨rfl, hB⟩
  exact ⟨rfl, hB⟩
theorem sub_numFn (p q z : Int × Int) (hp : RightN p.1 p.2) (hq : RightN q.1 q.2) (hz : subF p.1 p.2 q.1 q.2 = some z) : NumFn 63 p q (some z) := fun W hW => by
  rw [← hz]
  exact sub_c _ _ _ _ hp hq W hW
theorem mul_numFn (p q z : Int × Int) (hp : RightN p.1 p.2) (hq : RightN q.1 q.2) (hs : p.1.natAbs * q.1.natAbs < 1000000000000000) (hz : mulF p.1 p.2 q.1 q.2 0 (p.1.natAbs * q.1.natAbs) = some z) : NumFn 64 p q (some z) := fun W hW => by
  rw [← hz]
  refine mul_c _ _ _ _ hp hq 0 _ (by decide) hs (fun W => ?_) W hW
  have h0 : p.1.natAbs * q.1.natAbs / 18446744073709551616 = 0 := Nat.div_eq_of_lt (by omega)
  have h1 : p.1.natAbs * q.1.natAbs % 18446744073709551616 = p.1.natAbs * q.1.natAbs := Nat.mod_eq_of_lt (by omega)
  rw [h0, h1]
  have := div64_small (p.1.natAbs * q.1.natAbs) 1000000000000000 (by omega) (by decide) (by decide) W
  rw [Nat.div_eq_of_lt hs, Nat.mod_eq_of_lt hs] at this
  exact this
theorem subLost_c {L k : Nat} (hL : L ≤ 100) (hk : k ≤ L) (A A' : Option Addr) (ca ca' : Nat) (w : World) (h : ManyR Val.cs 6 w A [countV L]) (h' : ManyR Val.cs 6 w A' [countV k]) (htab : PowT w) :
    Calls Tryz.prog 21 #[.string ⟨#[45]⟩, .agg #[.int .i64 1, .int .i64 1, .slice A 1 ca], .agg #[.int .i64 1, .int .i64 1, .slice A' 1 ca']] w (CallA w 1 1 [countV (L - k)]) :=
  opSub _ _ _ (wholeF_right L) (wholeF_right k) (wholeF_right (L - k)) (sub_numFn _ _ _ (wholeF_right L) (wholeF_right k) (sub_whole hL hk)) A A' ca ca' w h h' htab
theorem subBefore_c {m : Nat} (hm : m ≤ 100) (A A' : Option Addr) (ca ca' : Nat) (w : World) (h : ManyR Val.cs 6 w A [countV (m + 1)]) (h' : ManyR Val.cs 6 w A' [oneNum]) (htab : PowT w) :
    Calls Tryz.prog 21 #[.string ⟨#[45]⟩, .agg #[.int .i64 1, .int .i64 1, .slice A 1 ca], .agg #[.int .i64 1, .int .i64 1, .slice A' 1 ca']] w (CallA w 1 1 [countV m]) := by
  have h1 : RightN ((1 : Int), (0 : Int)).1 ((1 : Int), (0 : Int)).2 := by
    have := wholeF_right 1
    rwa [Num.whole_eq 1 (by decide), Num.one_is] at this
  exact opSub _ (1, 0) _ (wholeF_right (m + 1)) h1 (wholeF_right m) (sub_numFn _ _ _ (wholeF_right (m + 1)) h1 (sub_one hm)) A A' ca ca' w h h' htab
theorem mulWant_c {m k : Nat} (hm : m ≤ 100) (hk : k ≤ 100) (hmk : m * k ≤ 100) (A A' : Option Addr) (ca ca' : Nat) (w : World) (h : ManyR Val.cs 6 w A [countV m]) (h' : ManyR Val.cs 6 w A' [countV k]) (htab : PowT w) :
    Calls Tryz.prog 21 #[.string ⟨#[42]⟩, .agg #[.int .i64 1, .int .i64 1, .slice A 1 ca], .agg #[.int .i64 1, .int .i64 1, .slice A' 1 ca']] w (CallA w 1 1 [countV (m * k)]) := by
  have h1 := whole_le (show m ≤ 101 by omega)
  have h2 := whole_le (show k ≤ 101 by omega)
  have h3 : (wholeF m).1.natAbs * (wholeF k).1.natAbs ≤ 255 * 255 := Nat.mul_le_mul h1 h2
  exact opMul _ _ _ (wholeF_right m) (wholeF_right k) (wholeF_right (m * k)) (mul_numFn _ _ _ (wholeF_right m) (wholeF_right k) (by omega) (mul_whole hm hk hmk)) A A' ca ca' w h h' htab
theorem parts_arr {W : World} {A : Option Addr} {n : Nat} (t sep : ByteArray) (ht : t.size ≤ 255) (hs : 1 ≤ sep.size) (hc : Lib.countB t sep ≤ 255) (hn : (splitV t sep).length = n) (h : ManyR Val.cs 6 W A (splitV t sep)) : ArrR W 1 (Lib.countB t sep + 1) A n (splitV t sep) := by
  have hl := partsB_len t sep hs
  have hl2 : (splitV t sep).length = Lib.countB t sep + 1 := by unfold splitV; rw [List.length_map, hl]
  refine ⟨h, hn, by omega, fun v hv => ?_, by omega, by omega, by rw [hl2]; omega, fun v hv => ?_⟩
  · obtain ⟨p, _, rfl⟩ := List.mem_map.1 hv
    exact fits_str p
  · obtain ⟨p, hp, rfl⟩ := List.mem_map.1 hv
    exact AM.str_right p (Nat.le_trans (split_small _ _ _ p hp) ht)
theorem libColumns_c (R C : Nat) (A : Option Addr) (n ca bG : Nat) (l : List Val) (W : World) (hG : Blk W bG 28 #[.int .i64 R, .int .i64 C, .slice A n ca]) (h : ArrR W R C A n l) (htab : PowT W) :
    Calls Tryz.prog 16 #[.agg #[], .string ⟨#[67, 79, 76, 85, 77, 78, 83]⟩, .slice (some ⟨bG, 0, none⟩) 1 1] W (CallA W 1 1 [countV C]) := by
  letI : AM.Toks := AM.noToks
  refine lib_a _ bG 1 1 1 [countV C] W (fun W => AM.flat_calls AM.amP_ok.1 AM.none_fmath_COLUMNS rfl bG 1 (Nat.le_refl _) W) (fun W => AM.flat_calls AM.amP_ok.1 AM.none_ftext_COLUMNS rfl bG 1 (Nat.le_refl _) W) (fun W => AM.flat_calls AM.amP_ok.1 AM.none_flogic_COLUMNS rfl bG 1 (Nat.le_refl _) W) (fun W => AM.flat_calls AM.amP_ok.1 AM.none_flook_COLUMNS rfl bG 1 (Nat.le_refl _) W) fun W2 hb2 => ?_
  have h2 := h.next hb2
  have hG2 := hG.kept (hb2.block _ hG.lt)
  refine callColumns_c bG R C A n ca 1 l W2 hG2 h2.many h2.len h2.le h2.fits h2.right 1 1 [countV C] fun W3 hb3 => ?_
  have h3 := h2.next hb3
  have hG3 := hG2.kept (hb3.block _ hG2.lt)
  exact columns_c bG R C A n ca 1 W3 hG3 h3.le2.2.1 ((htab.next hb2).next hb3)
end Go.Proofs.YtdmbppgogdkpdaaGreatDoor
