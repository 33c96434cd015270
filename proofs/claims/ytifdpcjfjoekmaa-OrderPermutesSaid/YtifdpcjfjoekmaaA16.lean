/-
  slices.symMergeCmpFunc, stableCmpFunc, SortStableFunc at ints: their contracts. Condition: the slice lies in a block of its own; what compares is the closure of order.Permutation; at most 60 things.
-/
import Derived.Test.YtifdpcjfjoekmaaA15
namespace Go.Proofs.Ytifdpcjfjoekmaa
open Go.RowKit

theorem sym_c (w : World) (g n cap bl bk : Nat) (cf : Nat → Nat → Int) (hC : CmpC w g n cf bl bk) (o : Ord cf n) (hn : n ≤ 1000000) : ∀ (f a m b : Nat) (d : List Nat) (W : World), b - a ≤ f → SS w g n W d → Mrg cf n d a m b →
    Calls Try.prog 30 #[.slice (some ⟨g, 0, none⟩) n cap, .int .i64 a, .int .i64 m, .int .i64 b, .func (.func 17) #[] #[.pointer (some ⟨bl, 0, none⟩), .pointer (some ⟨bk, 0, none⟩)]] W (SrtP w g n cf d a b)
  | 0, a, m, b, d, W, hf, h, M => by have := M.am; have := M.mb; omega
  | f + 1, a, m, b, d, W, hf, h, M => by
    by_cases hm : m = a + 1
    · exact sym_left w g n cap bl bk cf hC o hn a m b d W h M hm
    · by_cases hb : b = m + 1
      · exact sym_right w g n cap bl bk cf hC o hn a m b d W h M hm hb
      · exact sym_more w g n cap bl bk cf hC o hn a m b d W h M hm hb (fun a' m' b' d' W' hlt h' M' => sym_c w g n cap bl bk cf hC o hn f a' m' b' d' W' (by omega) h' M')

def AllP (w : World) (g n : Nat) (cf : Nat → Nat → Int) (d : List Nat) (e : Ending) (w' : World) : Prop := e = .returned (.tuple #[]) ∧ ∃ d', SS w g n w' d' ∧ d'.Perm d ∧ Srt cf 0 n d'

set_option maxRecDepth 100000 in
set_option maxHeartbeats 8000000 in
theorem stable_c (w : World) (g n cap bl bk : Nat) (cf : Nat → Nat → Int) (hC : CmpC w g n cf bl bk) (o : Ord cf n) (hn : n ≤ 60) (d : List Nat) (W : World) (h : SS w g n W d) (hid : ∀ p, p < n → D d p = p) :
    Calls Try.prog 23 #[.slice (some ⟨g, 0, none⟩) n cap, .int .i64 n, .func (.func 17) #[] #[.pointer (some ⟨bl, 0, none⟩), .pointer (some ⟨bk, 0, none⟩)]] W (AllP w g n cf d) := by
  have H := Lib.hid h
  have HC := Lib.hid hC
  have HO := Lib.hid o
  have HI := Lib.hid hid
  have hu : Under n d := fun x hx => by
    obtain ⟨i, hi, rfl⟩ := List.mem_iff_getElem.1 hx
    have e := hid i (by rw [h.len] at hi; exact hi)
    have : D d i = d[i] := by simp [D, List.getD, hi]
    rw [h.len] at hi
    omega
  have HU := Lib.hid hu
  have hn6 : n ≤ 1000000 := by omega
  clear h hC o hid hu
  go_enter Try.func23, Try.ntmps23
  go_wp2_with fail
  go_loopw [7, 8] (fun i j wr => ∃ k : Nat, i = .int .i64 ((k * 20 : Nat) : Int) ∧ j = .int .i64 ((k * 20 + 20 : Nat) : Int) ∧ k * 20 ≤ n ∧ Hid (∃ d1, SS w g n wr d1 ∧ d1.Perm d ∧ Half cf 20 0 (k * 20) d1 ∧ ∀ p, k * 20 ≤ p → p < n → D d1 p = p)) (fun i _ _ => 60 - (intOf i).toNat)
  case atStart => exact ⟨0, by simp, by simp, by omega, ⟨d, H.out, List.Perm.refl _, Half.none _ _ _, fun p _ hp => HI.out p hp⟩⟩
  case round =>
    obtain ⟨k, rfl, rfl, hk, hS⟩ := hrel
    obtain ⟨d1, s1, p1, h1, i1⟩ := hS.out
    have HS1 := Lib.hid s1
    have HP1 := Lib.hid p1
    have HH1 := Lib.hid h1
    have HI1 := Lib.hid i1
    clear s1 p1 h1 i1 hS
    obtain ⟨A, hA⟩ : ∃ A, k * 20 = A := ⟨_, rfl⟩
    obtain ⟨B, hB⟩ : ∃ B, k * 20 + 20 = B := ⟨_, rfl⟩
    rw [hB]
    rw [hA] at HH1 HI1 hk ⊢
    have hAB : B = A + 20 := by omega
    have HAB := Lib.hid hAB
    have HA := Lib.hid hA
    have HB := Lib.hid hB
    clear hAB hA hB
    by_cases hb : B ≤ n
    · have q1 : (B : Int) ≤ (n : Int) := by omega
      have HCC := Lib.hid (inssort_c w g n cap A B bl bk cf HC.out HO.out d1 wr HS1.out (HU.out.perm HP1.out) (by have := HAB.out; omega) hb (fun p q x1 x2 x3 => by rw [HI1.out p x1 (by omega), HI1.out q (by omega) (by omega)]; exact x2) hn6)
      have sb : (B : Int) + 20 = (((k + 1) * 20 + 20 : Nat) : Int) := by have := HB.out; omega
      have SB := Lib.hid sb
      clear sb
      go_wp2_with fail
      refine HCC.out.mono ?_
      rintro e w1 ⟨rfl, d2, s2, m2, t2⟩
      have HS2 := Lib.hid s2
      have HM2 := Lib.hid m2
      have HT2 := Lib.hid t2
      clear s2 m2 t2 HCC
      go_wp2_with fail
      go_roundw
      case rel =>
        have e1 := HA.out
        have e2 := HB.out
        refine ⟨k + 1, by rw [← e2]; congr 2; omega, by rw [SB.out], by omega, ⟨d2, HS2.out, HM2.out.perm.trans HP1.out, ?_, fun p x1 x2 => ?_⟩⟩
        · have hd := HH1.out.same (d' := d2) (fun p _ x => HM2.out.out p (.inl x))
          rw [← e1] at hd
          have hs := HT2.out
          rw [← e1, ← e2] at hs
          have := Half.block (bs := 20) (k := k) (b := (k + 1) * 20) (.inl rfl) hd (by omega) (by omega) (by rw [show (k + 1) * 20 = k * 20 + 20 by omega]; exact hs) (fun p x1 x2 => by
            obtain ⟨q, y1, y2, e⟩ := HM2.out.into p (by omega) (by omega)
            rw [e, HI1.out q y1 (by omega)]
            omega)
          exact this
        · rw [HM2.out.out p (.inr (by omega))]
          exact HI1.out p (by omega) x2
      case measure => simp [intOf]; have := HAB.out; omega
    · have q1 : ¬ (B : Int) ≤ (n : Int) := by omega
      have HCC := Lib.hid (inssort_c w g n cap A n bl bk cf HC.out HO.out d1 wr HS1.out (HU.out.perm HP1.out) hk (Nat.le_refl _) (fun p q x1 x2 x3 => by rw [HI1.out p x1 (by omega), HI1.out q (by omega) x3]; exact x2) hn6)
      go_wp2_with fail
      refine HCC.out.mono ?_
      rintro e w1 ⟨rfl, d2, s2, m2, t2⟩
      have HH2 : Hid (∃ d1, SS w g n w1 d1 ∧ d1.Perm d ∧ Half cf 20 0 n d1) := by
        refine ⟨d2, s2, m2.perm.trans HP1.out, ?_⟩
        have e1 := HA.out
        have e2 := HB.out
        have hd := HH1.out.same (d' := d2) (fun p _ x => m2.out p (.inl x))
        rw [← e1] at hd t2
        exact Half.block (bs := 20) (k := k) (b := n) (.inl rfl) hd (by omega) (by omega) t2 (fun p x1 x2 => by
            obtain ⟨q, y1, y2, e⟩ := m2.into p (by omega) x2
            rw [e, HI1.out q y1 y2]
            omega)
      clear s2 m2 t2 HCC HS1 HP1 HH1 HI1 HA HB HAB q1 hb hk
      go_wp2_with fail
      go_loopw [6] (fun i wr => ∃ bs : Nat, i = .int .i64 bs ∧ (bs = 20 ∨ bs = 40 ∨ bs = 80) ∧ Hid (∃ d1, SS w g n wr d1 ∧ d1.Perm d ∧ Half cf bs 0 n d1)) (fun i _ => 100 - (intOf i).toNat)
      case atStart => exact ⟨20, rfl, .inl rfl, HH2.out⟩
      case round =>
        obtain ⟨bs, rfl, hbs, hS⟩ := hrel
        clear HH2
        by_cases hlt : bs < n
        · rcases hbs with rfl | rfl | rfl
          · have q1 : (20 : Int) < (n : Int) := by omega
            have hbn : 20 < n := hlt
            clear hlt
            go_wp2_with fail
            go_loopw [7, 8] (fun i j wr => ∃ k : Nat, i = .int .i64 ((k * (2 * 20) : Nat) : Int) ∧ j = .int .i64 ((k * (2 * 20) + 2 * 20 : Nat) : Int) ∧ k * (2 * 20) ≤ n ∧ Hid (∃ d1, SS w g n wr d1 ∧ d1.Perm d ∧ Half cf (2 * 20) 0 (k * (2 * 20)) d1 ∧ Half cf 20 (k * (2 * 20)) n d1)) (fun i _ _ => 200 - (intOf i).toNat)
            case atStart =>
              obtain ⟨d1, s1, p1, h1⟩ := hS.out
              exact ⟨0, by simp, by simp, by omega, ⟨d1, s1, p1, Half.none _ _ _, by simpa using h1⟩⟩
            case round =>
              obtain ⟨k, rfl, rfl, hk, hS2⟩ := hrel
              clear hS
              obtain ⟨d1, s1, p1, h1, i1⟩ := hS2.out
              have HS1 := Lib.hid s1
              have HP1 := Lib.hid p1
              have HH1 := Lib.hid h1
              have HI1 := Lib.hid i1
              clear s1 p1 h1 i1 hS2
              obtain ⟨A, hA⟩ : ∃ A, k * (2 * 20) = A := ⟨_, rfl⟩
              obtain ⟨B, hB⟩ : ∃ B, k * (2 * 20) + 2 * 20 = B := ⟨_, rfl⟩
              rw [hB]
              rw [hA] at HH1 HI1 hk ⊢
              have hAB : B = A + 40 := by omega
              have HAB := Lib.hid hAB
              have HA := Lib.hid hA
              have HB := Lib.hid hB
              clear hAB hA hB
              obtain ⟨Mi, hMi⟩ : ∃ x, A + 20 = x := ⟨_, rfl⟩
              have am : (A : Int) + 20 = (Mi : Int) := by omega
              have HMi := Lib.hid hMi
              clear hMi
              by_cases hb : B ≤ n
              · have q2 : (B : Int) ≤ (n : Int) := by omega
                have HCC := Lib.hid (sym_c w g n cap bl bk cf HC.out HO.out hn6 n A Mi B d1 wr (by omega) HS1.out (Half.mrg (n := n) (k := k) (.inl rfl) HA.out.symm HMi.out.symm (by have := HMi.out; have := HAB.out; omega) (by have := HAB.out; omega) hb HI1.out (HU.out.perm HP1.out) (by rw [HS1.out.len])))
                have SB := Lib.hid (show (B : Int) + 40 = (((k + 1) * (2 * 20) + 2 * 20 : Nat) : Int) by have := HB.out; omega)
                go_wp2_with fail
                refine HCC.out.mono ?_
                rintro e w1 ⟨rfl, d2, s2, m2, t2⟩
                have HS2 := Lib.hid s2
                have HM2 := Lib.hid m2
                have HT2 := Lib.hid t2
                clear s2 m2 t2 HCC
                go_wp2_with fail
                go_roundw
                case rel =>
                  have e1 := HA.out
                  have e2 := HB.out
                  have hm := Half.merged (k := k) (.inl rfl) HA.out.symm (by omega) (by omega) hb HH1.out HI1.out HM2.out HT2.out
                  have e3 : (k + 1) * (2 * 20) = B := by omega
                  have hrl : Hid (∃ d1, SS w g n w1 d1 ∧ d1.Perm d ∧ Half cf (2 * 20) 0 ((k + 1) * (2 * 20)) d1 ∧ Half cf 20 ((k + 1) * (2 * 20)) n d1) := by
                    rw [e3]
                    exact ⟨d2, HS2.out, HM2.out.perm.trans HP1.out, hm.1, hm.2⟩
                  first
                    | exact ⟨k + 1, by rw [e3], by rw [SB.out], by omega, hrl⟩
                    | ((repeat apply Exists.intro); exact ⟨⟨k + 1, by rw [e3], by rw [SB.out], by omega, hrl⟩, rfl⟩)
                case measure => simp [intOf]; have := HAB.out; omega
              · have q2 : ¬ (B : Int) ≤ (n : Int) := by omega
                by_cases hmn : Mi < n
                · have q3 : (Mi : Int) < (n : Int) := by omega
                  have HCC := Lib.hid (sym_c w g n cap bl bk cf HC.out HO.out hn6 n A Mi n d1 wr (by omega) HS1.out (Half.mrg (n := n) (k := k) (.inl rfl) HA.out.symm HMi.out.symm hmn (by have := HAB.out; omega) (Nat.le_refl _) HI1.out (HU.out.perm HP1.out) (by rw [HS1.out.len])))
                  go_wp2_with fail
                  refine HCC.out.mono ?_
                  rintro e w1 ⟨rfl, d2, s2, m2, t2⟩
                  have HNX : Hid (∃ d1, SS w g n w1 d1 ∧ d1.Perm d ∧ Half cf 40 0 n d1) := by
                    have e1 := HA.out
                    have e2 := HB.out
                    exact ⟨d2, s2, m2.perm.trans HP1.out, (Half.merged (k := k) (.inl rfl) HA.out.symm (by omega) hk (Nat.le_refl _) HH1.out HI1.out m2 t2).1⟩
                  clear s2 m2 t2 HCC
                  go_wp2_with fail
                  go_roundw
                  case rel => exact ⟨40, rfl, by omega, HNX.out⟩
                  case measure => simp [intOf]
                · have q3 : ¬ (Mi : Int) < (n : Int) := by omega
                  have HNX : Hid (∃ d1, SS w g n wr d1 ∧ d1.Perm d ∧ Half cf 40 0 n d1) := by
                    have e1 := HMi.out
                    exact ⟨d1, HS1.out, HP1.out, Half.alone (k := k) (.inl rfl) HA.out.symm hk (by omega) HH1.out HI1.out⟩
                  go_wp2_with fail
                  go_roundw
                  case rel => exact ⟨40, rfl, by omega, HNX.out⟩
                  case measure => simp [intOf]
          · have q1 : (40 : Int) < (n : Int) := by omega
            have hbn : 40 < n := hlt
            clear hlt
            go_wp2_with fail
            go_loopw [7, 8] (fun i j wr => ∃ k : Nat, i = .int .i64 ((k * (2 * 40) : Nat) : Int) ∧ j = .int .i64 ((k * (2 * 40) + 2 * 40 : Nat) : Int) ∧ k * (2 * 40) ≤ n ∧ Hid (∃ d1, SS w g n wr d1 ∧ d1.Perm d ∧ Half cf (2 * 40) 0 (k * (2 * 40)) d1 ∧ Half cf 40 (k * (2 * 40)) n d1)) (fun i _ _ => 200 - (intOf i).toNat)
            case atStart =>
              obtain ⟨d1, s1, p1, h1⟩ := hS.out
              exact ⟨0, by simp, by simp, by omega, ⟨d1, s1, p1, Half.none _ _ _, by simpa using h1⟩⟩
            case round =>
              obtain ⟨k, rfl, rfl, hk, hS2⟩ := hrel
              clear hS
              obtain ⟨d1, s1, p1, h1, i1⟩ := hS2.out
              have HS1 := Lib.hid s1
              have HP1 := Lib.hid p1
              have HH1 := Lib.hid h1
              have HI1 := Lib.hid i1
              clear s1 p1 h1 i1 hS2
              obtain ⟨A, hA⟩ : ∃ A, k * (2 * 40) = A := ⟨_, rfl⟩
              obtain ⟨B, hB⟩ : ∃ B, k * (2 * 40) + 2 * 40 = B := ⟨_, rfl⟩
              rw [hB]
              rw [hA] at HH1 HI1 hk ⊢
              have hAB : B = A + 80 := by omega
              have HAB := Lib.hid hAB
              have HA := Lib.hid hA
              have HB := Lib.hid hB
              clear hAB hA hB
              obtain ⟨Mi, hMi⟩ : ∃ x, A + 40 = x := ⟨_, rfl⟩
              have am : (A : Int) + 40 = (Mi : Int) := by omega
              have HMi := Lib.hid hMi
              clear hMi
              by_cases hb : B ≤ n
              · have q2 : (B : Int) ≤ (n : Int) := by omega
                have HCC := Lib.hid (sym_c w g n cap bl bk cf HC.out HO.out hn6 n A Mi B d1 wr (by omega) HS1.out (Half.mrg (n := n) (k := k) (.inr rfl) HA.out.symm HMi.out.symm (by have := HMi.out; have := HAB.out; omega) (by have := HAB.out; omega) hb HI1.out (HU.out.perm HP1.out) (by rw [HS1.out.len])))
                have SB := Lib.hid (show (B : Int) + 80 = (((k + 1) * (2 * 40) + 2 * 40 : Nat) : Int) by have := HB.out; omega)
                go_wp2_with fail
                refine HCC.out.mono ?_
                rintro e w1 ⟨rfl, d2, s2, m2, t2⟩
                have HS2 := Lib.hid s2
                have HM2 := Lib.hid m2
                have HT2 := Lib.hid t2
                clear s2 m2 t2 HCC
                go_wp2_with fail
                go_roundw
                case rel =>
                  have e1 := HA.out
                  have e2 := HB.out
                  have hm := Half.merged (k := k) (.inr rfl) HA.out.symm (by omega) (by omega) hb HH1.out HI1.out HM2.out HT2.out
                  have e3 : (k + 1) * (2 * 40) = B := by omega
                  have hrl : Hid (∃ d1, SS w g n w1 d1 ∧ d1.Perm d ∧ Half cf (2 * 40) 0 ((k + 1) * (2 * 40)) d1 ∧ Half cf 40 ((k + 1) * (2 * 40)) n d1) := by
                    rw [e3]
                    exact ⟨d2, HS2.out, HM2.out.perm.trans HP1.out, hm.1, hm.2⟩
                  first
                    | exact ⟨k + 1, by rw [e3], by rw [SB.out], by omega, hrl⟩
                    | ((repeat apply Exists.intro); exact ⟨⟨k + 1, by rw [e3], by rw [SB.out], by omega, hrl⟩, rfl⟩)
                case measure => simp [intOf]; have := HAB.out; omega
              · have q2 : ¬ (B : Int) ≤ (n : Int) := by omega
                by_cases hmn : Mi < n
                · have q3 : (Mi : Int) < (n : Int) := by omega
                  have HCC := Lib.hid (sym_c w g n cap bl bk cf HC.out HO.out hn6 n A Mi n d1 wr (by omega) HS1.out (Half.mrg (n := n) (k := k) (.inr rfl) HA.out.symm HMi.out.symm hmn (by have := HAB.out; omega) (Nat.le_refl _) HI1.out (HU.out.perm HP1.out) (by rw [HS1.out.len])))
                  go_wp2_with fail
                  refine HCC.out.mono ?_
                  rintro e w1 ⟨rfl, d2, s2, m2, t2⟩
                  have HNX : Hid (∃ d1, SS w g n w1 d1 ∧ d1.Perm d ∧ Half cf 80 0 n d1) := by
                    have e1 := HA.out
                    have e2 := HB.out
                    exact ⟨d2, s2, m2.perm.trans HP1.out, (Half.merged (k := k) (.inr rfl) HA.out.symm (by omega) hk (Nat.le_refl _) HH1.out HI1.out m2 t2).1⟩
                  clear s2 m2 t2 HCC
                  go_wp2_with fail
                  go_roundw
                  case rel => exact ⟨80, rfl, by omega, HNX.out⟩
                  case measure => simp [intOf]
                · have q3 : ¬ (Mi : Int) < (n : Int) := by omega
                  have HNX : Hid (∃ d1, SS w g n wr d1 ∧ d1.Perm d ∧ Half cf 80 0 n d1) := by
                    have e1 := HMi.out
                    exact ⟨d1, HS1.out, HP1.out, Half.alone (k := k) (.inr rfl) HA.out.symm hk (by omega) HH1.out HI1.out⟩
                  go_wp2_with fail
                  go_roundw
                  case rel => exact ⟨80, rfl, by omega, HNX.out⟩
                  case measure => simp [intOf]
          · omega
        · have q1 : ¬ (bs : Int) < (n : Int) := by omega
          go_wp2_with fail
          go_end0
          obtain ⟨d1, s1, p1, h1⟩ := hS.out
          exact ⟨rfl, d1, s1, p1, h1.all hbs (by omega)⟩
end Go.Proofs.Ytifdpcjfjoekmaa
