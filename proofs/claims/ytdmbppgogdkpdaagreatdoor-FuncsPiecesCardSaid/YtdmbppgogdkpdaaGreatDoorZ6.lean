/-
  (funcs.Lib).Call at LEN: its contract, reckoned by the abstract machine over tokens. Conditions: the table of powers of ten reads as the program lays it; the text is of at most 255 bytes.
  (funcs.Lib).Call at LEN: its contract. Conditions: the table of powers of ten reads as the program lays it; the text is of at most 255 bytes.
  (funcs.Lib).Call at SUBSTITUTE of an empty text: its contract; how long what is left is. Conditions: the texts are of at most 255 bytes, the second one not empty; internal/bytealg.MaxLen holds some int.
  counterpaneref09.One; the law's closures text and call: their contracts. Condition: the value may be.
  The law's closure call: its contract, for what Lib.Call tells. No condition beyond that.
-/
import Derived.Test.YtdmbppgogdkpdaaGreatDoorVN
import Derived.Test.YtdmbppgogdkpdaaGreatDoorZ1
import Derived.Test.YtdmbppgogdkpdaaGreatDoorXT
set_option linter.unusedSectionVars false
namespace Go.Proofs.YtdmbppgogdkpdaaGreatDoor
open Go.RowKit
/-- One value in a block of its own. -/
def OneR (w : World) (g : Nat) (x : Val) : Prop := ∃ e fr, w.heap[g]? = some (.cells x.cs.toArray e fr)
def strV (t : ByteArray) : Val := ⟨2, 0, 0, t, false, 0⟩
theorem OneR.lt {w : World} {g : Nat} {x : Val} (h : OneR w g x) : g < w.heap.size := by
  obtain ⟨e, fr, h⟩ := h
  exact (Array.getElem?_eq_some_iff.1 h).1
theorem OneR.next {w w' : World} {g : Nat} {x : Val} (h : OneR w g x) (b : Below w.heap.size w w') : OneR w' g x := by
  obtain ⟨e, fr, h1⟩ := h
  exact ⟨e, fr, (b.block g (Array.getElem?_eq_some_iff.1 h1).1).trans h1⟩
theorem OneR.many {w : World} {g : Nat} {x : Val} (h : OneR w g x) : ManyR Val.cs 6 w (some ⟨g, 0, none⟩) [x] := fun _ => by
  have hlt := h.lt
  obtain ⟨e, fr, h1⟩ := h
  refine ⟨g, 0, rfl, hlt, fun i hi j v hv => ?_⟩
  have : i = 0 := by simpa using hi
  subst this
  unfold World.cell?
  simp only [h1]
  simpa using hv
/-- An array of one value, in a block of its own, and true. -/
def LibO (w : World) (x : Val) (e : Ending) (w' : World) : Prop := ∃ g, e = .returned (.tuple #[.agg #[.int .i64 1, .int .i64 1, .slice (some ⟨g, 0, none⟩) 1 1], .bool true]) ∧ OneR w' g x ∧ w.heap.size ≤ g ∧ Below w.heap.size w w'
namespace AM
def tI (k : Nat) : Value := .complex .f64 0 k
def tS (k : Nat) : Value := .complex .f64 1 k
def tB (k : Nat) : Value := .complex .f64 2 k
def strTok (k : Nat) : List Value := [.int .i64 2, .int .i64 0, .int .i64 0, tS k, .bool false, .int .i64 0]
def tabP : List Value := Lib.pow10Tab.map fun z => .int .u64 z
def sl1 (k : Nat) : Value := .slice (some ⟨k, 0, none⟩) 1 1
def patO (k : Nat) : Value := .tuple #[.agg #[.int .i64 1, .int .i64 1, .slice (some ⟨k, 0, none⟩) 1 1], .bool true]
def oneB (k : Nat) (z : List Value) (v : Value) (H : AH) : Bool := veq 40 v (patO k) && match H.t.get k with
  | some (.cells cs _ true true) => leqB (veqB 40) cs z
  | _ => false
theorem oneB_ok [Toks] {ν : Mp} {w w' : World} {k : Nat} {z zc : List Value} {v v' : Value} {H : AH} (h : Rel ν H (baseAt w) w') (hv : VR ν v v') (hb : oneB k z v H = true) (hz : lconc (vconc 8) z = some zc) :
    ∃ g e fr, v' = .tuple #[.agg #[.int .i64 1, .int .i64 1, .slice (some ⟨g, 0, none⟩) 1 1], .bool true] ∧ w'.heap[g]? = some (.cells zc.toArray e fr) ∧ w.heap.size ≤ g := by
  simp only [oneB, Bool.and_eq_true] at hb
  obtain ⟨h1, h2⟩ := hb
  split at h2
  case h_2 => cases h2
  rename_i cs ty hblk
  have e0 := leqB_eq (veqB_eq 40) _ _ h2
  subst e0
  obtain ⟨g, s, hx, hl, hown⟩ := h.lies k _ hblk
  obtain ⟨o, ho, C, fr, e', rfl, q1, _, q3, _, q5⟩ := hl rfl
  have hn : numOf ν k = g := by simp only [numOf, hx, Option.map_some, Option.getD_some]
  rw [veq_ok _ _ _ h1] at hv
  have hv' := ren_inv 8 _ _ (by rfl) hv
  refine ⟨g, e', fr, ?_, ?_, ?_⟩
  · rw [hv', ← hn]; rfl
  · rw [ho]
    have hC : C.toList = zc := lconc_inv (vconc_inv 8) _ _ _ hz ⟨by simp [q1, q3 rfl], fun i a b x y => by
      obtain ⟨v2, hv2, hr⟩ := q5 i a x
      have : C[i]? = some b := by simpa using y
      rw [this] at hv2
      cases hv2
      exact hr⟩
    rw [← hC]
  · rcases Nat.lt_or_ge g w.heap.size with g1 | g1
    · exact absurd g1 (hown rfl)
    · exact g1
/-- What a call that is begun with blocks in the world hands back. -/
theorem one_calls [Toks] {P : Program} {call : ACall} (hC : CallOk P call) {f : Nat} {vs : List Value} {args : Array Value} {w : World} {L : List (Nat × Nat × Nat × Blk)} {N k : Nat} {z : List Value} {hN : glob ≤ N} {hk : ∀ x ∈ L, x.1 < N} {hg : ∀ x ∈ L, x.1 < glob → x.2.1 = x.1} {x : Val} {H0 : AH}
    (h : (match call f vs H0 with | some outs => outs.all fun p => oneB k z p.1 p.2 | none => false) = true) (hz : lconc (vconc 8) z = some x.cs) (hH : startH L N = H0) (hrel : Rel (mapL w L N hN hk hg) (startH L N) (baseAt w) w) (hl : LR (mapL w L N hN hk hg) vs args.toList) : Calls P f args w (LibO w x) := by
  subst hH
  split at h
  · rename_i outs h0
    have main := hC (baseAt w) f vs _ outs _ args w h0 hrel hl
    refine (callsIn_wide (n := 0)).1 (CallsIn.mono (callsIn_fw (r' := none) main) ?_)
    rintro _ w' ⟨p, hp, ν, v', rfl, _, k2, k3⟩
    have hb := List.all_eq_true.1 h p hp
    obtain ⟨g, e, fr, h1, h2, h3⟩ := oneB_ok k2 k3 hb hz
    exact ⟨g, by rw [h1], ⟨e, fr, h2⟩, h3, k2.os, k2.tape, k2.output, k2.size, fun k hk => k2.keep k hk⟩
  · cases h
/-! LEN. -/
noncomputable abbrev toksL (t : ByteArray) : Toks where
  kd _ := .i64
  i k := match k with
    | 0 => t.size
    | 1 => (wholeF t.size).1
    | 2 => (wholeF t.size).2
    | _ => 0
  s _ := t
  b _ := (makeF t.size).isSome
def tabL : TTab := ⟨fun _ _ _ => none, fun _ _ => none, fun _ _ => none, fun _ _ _ => none, fun _ _ _ => none, fun k => match k with
  | 0 => some 0
  | _ => none⟩
theorem tabL_ok (t : ByteArray) : letI := toksL t; tabL.Ok Tryz.prog := by
  letI := toksL t
  refine ⟨(fun _ _ _ _ h => by cases h), (fun _ _ _ h => by cases h), (fun _ _ _ h => by cases h), (fun _ _ _ _ h => by cases h), (fun _ _ _ _ h => by cases h), fun k j h => ?_⟩
  simp only [tabL] at h
  split at h
  · cases h; exact ⟨rfl, rfl⟩
  · cases h
section
variable [Toks]
def SP : Cut := ⟨[], [(3, .cells tabP 0 true false)], 0⟩
def ovL (call : ACall) : ACall := acallN 290 [tI 0, .int .i64 0] SP (.tuple #[.agg #[tI 1, tI 2], tB 0]) (acallK 126 [.agg (strTok 0).toArray] (.bool true) call)
def startL : AH := ⟨[((3 : Nat), Blk.cells tabP 0 true false), (16, .cells [.int .i64 1, .int .i64 1, sl1 17] 28 false false), (17, .cells (strTok 0) 41 false false)].foldl (fun T x => T.set 40 x.1 x.2) .nil, 20⟩
theorem run_LEN : (match (amZ ovL Tryz.prog ((envP Tryz.prog).tok tabL) eqP 1000 [] 60).1 16 [.agg #[], .string ⟨#[76, 69, 78]⟩, .slice (some ⟨16, 0, none⟩) 1 1] startL with | some outs => outs.all fun p => oneB 97 [.int .i64 1, tI 1, tI 2, .string ⟨#[]⟩, .bool false, .int .i64 0] p.1 p.2 | none => false) = true := by kernel_rfl
end
end AM
end Go.Proofs.YtdmbppgogdkpdaaGreatDoor
namespace Go.Proofs.YtdmbppgogdkpdaaGreatDoor
open Go.RowKit
namespace AM
theorem vr_tuple2 [Toks] {μ : Mp} {a b a' b' : Value} (h1 : VR μ a a') (h2 : VR μ b b') : VR μ (.tuple #[a, b]) (.tuple #[a', b']) := .tuple rfl fun i v v' e e' => by
  match i with
  | 0 => simp at e e'; rw [← e, ← e']; exact h1
  | 1 => simp at e e'; rw [← e, ← e']; exact h2
  | n + 2 => simp at e
theorem vr_cells [Toks] {μ : Mp} {l m : List Value} (h : LR μ l m) : ∀ (i : Nat) (v : Value), l[i]? = some v → ∃ v', m.toArray[i]? = some v' ∧ VR μ v v' := fun i v hv => by
  have hi := (List.getElem?_eq_some_iff.1 hv).1
  have hi' : i < m.length := by rw [← h.1]; exact hi
  exact ⟨m[i], by simp [hi'], h.2 i v m[i] hv (List.getElem?_eq_getElem hi')⟩
theorem make_optV (n : Nat) : optV (makeF n) = .tuple #[.agg #[.int .i64 (wholeF n).1, .int .i64 (wholeF n).2], .bool (makeF n).isSome] := by
  unfold wholeF
  cases makeF n <;> rfl
theorem str_right (t : ByteArray) (ht : t.size ≤ 255) : RightV (strV t) := rightV2.2 ⟨rfl, rfl, ht, rfl, rfl⟩
theorem right_str (t : ByteArray) (ht : t.size ≤ 255) (W : World) : Calls Tryz.prog 126 #[.agg #[.int .i64 2, .int .i64 0, .int .i64 0, .string t, .bool false, .int .i64 0]] W fun e w' => e = .returned (.bool true) ∧ Below W.heap.size W w' := by
  refine (vright_c (strV t) (by simp [strV]) (by simp [strV]) (by simp [strV]) (by simp [strV]) W).mono ?_
  rintro e w' ⟨b, rfl, hb, hl⟩
  exact ⟨by rw [hb.2 (str_right t ht)], hl⟩
theorem powL (w : World) (h : PowT w) : ∃ e fr, w.heap[3]? = some (.cells tabP.toArray e fr) := by
  have h1 : w.var? Tryz.prog "internal/strconv.uint64pow10" = some tabP.toArray := h
  unfold World.var? at h1
  rw [show Tryz.prog.globalNamed "internal/strconv.uint64pow10" = some 3 by kernel_rfl] at h1
  simp only [Option.bind_some] at h1
  split at h1
  · rename_i cs e fr hh
    cases h1
    exact ⟨e, fr, hh⟩
  · cases h1
theorem tab_scal : ∀ v ∈ tabP, isScalar v = true := List.all_eq_true.1 (show tabP.all isScalar = true by kernel_rfl)
theorem tabR [Toks] {μ : Mp} {s : Nat} (hs : s = 20) {e : TypeId} {fr : Nat × Nat} : BlkR μ s (.cells tabP 0 true false) (.cells tabP.toArray e fr) := by
  subst hs
  exact ⟨tabP.toArray, fr, e, rfl, by rfl, (fun h => by cases h), fun _ => by rfl, by show tabP.length ≤ 20; exact Nat.le_of_eq (by rfl), fun i v hv => ⟨v, by simpa using hv, .of_scalar _ (tab_scal v (List.mem_of_getElem? hv))⟩⟩
set_option maxRecDepth 100000 in
theorem lenLib_c (t : ByteArray) (ht : t.size ≤ 255) (bG g : Nat) (w : World) (hG : Go.Proofs.YtdmbppgogdkpdaaGreatDoor.Blk w bG 28 #[.int .i64 1, .int .i64 1, .slice (some ⟨g, 0, none⟩) 1 1]) (hO : OneR w g (strV t)) (htab : PowT w) :
    Calls Tryz.prog 16 #[.agg #[], .string ⟨#[76, 69, 78]⟩, .slice (some ⟨bG, 0, none⟩) 1 1] w (LibO w (countV t.size)) := by
  letI := toksL t
  have hov : ∀ call, CallOk Tryz.prog call → CallOk Tryz.prog (ovL call) := fun call hc => by
    refine acallN_ok (conc := #[.int .i64 (t.size : Int), .int .i64 0]) (rv := .tuple #[.agg #[.int .i64 (wholeF t.size).1, .int .i64 (wholeF t.size).2], .bool (makeF t.size).isSome]) (fun μ w0 n W hr => ?_) (fun μ args hl => ?_) (fun μ => ?_) _ (known_ok (l := [.agg #[.int .i64 2, .int .i64 0, .int .i64 0, .string t, .bool false, .int .i64 0]]) (by rfl) (by rfl) (fun W => right_str t ht W) call hc)
    · have hp : PowT W := tabIs_of_rel (g := 3) hr (by kernel_rfl) (by decide) (by rfl)
      have := make_c t.size (by omega) W hp
      rw [make_optV] at this
      exact this
    · have := lconc_inv (μ := μ) (vconc_inv 8) [tI 0, .int .i64 0] [.int .i64 (t.size : Int), .int .i64 0] args.toList (by rfl) hl
      apply Array.ext'
      rw [this]
    · exact vr_tuple2 (.agg rfl fun i v v' e e' => by
        match i with
        | 0 => simp at e e'; rw [← e, ← e']; exact .tokI _ _
        | 1 => simp at e e'; rw [← e, ← e']; exact .tokI _ _
        | n + 2 => simp at e) (.tokB _ _)
  have hC := (amZ_ok (loops := 1000) (joins := []) hov (envP_ok.tok (tabL_ok t)) eqP_ok mixed_P 60).1
  obtain ⟨e3, fr3, h3⟩ := powL w htab
  obtain ⟨eO, frO, hO⟩ := hO
  refine one_calls (L := [((3 : Nat), (3 : Nat), (20 : Nat), Blk.cells tabP 0 true false), (16, bG, 3, .cells [.int .i64 1, .int .i64 1, sl1 17] 28 false false), (17, g, 6, .cells (strTok 0) 41 false false)]) (N := 20) (hN := by decide) (hk := by simp) (hg := by simp [glob]) (H0 := startL) hC (x := countV t.size) (k := 97) (z := [.int .i64 1, tI 1, tI 2, .string ⟨#[]⟩, .bool false, .int .i64 0]) (vs := [.agg #[], .string ⟨#[76, 69, 78]⟩, .slice (some ⟨16, 0, none⟩) 1 1]) run_LEN (by rfl) (by rfl) (rel_init _ _ _ (by decide) (by simp) (by simp [Blk.own]) ?_) ?_
  · intro x hx
    simp only [List.mem_cons, List.mem_nil_iff, or_false] at hx
    rcases hx with rfl | rfl | rfl
    · exact ⟨_, h3, tabR rfl⟩
    · refine ⟨_, hG, _, _, _, rfl, rfl, (fun h => by cases h), (fun h => by cases h), Nat.le_refl _, vr_cells (.cons (.int _ _) (.cons (.int _ _) (.cons (.sl (s := 6) 0 1 1 (by rfl) (by decide)) (.nil _))))⟩
    · refine ⟨_, hO, _, _, _, rfl, rfl, (fun h => by cases h), (fun h => by cases h), Nat.le_refl _, vr_cells (lconc_lr (vconc_vr _ 8) _ _ (by rfl))⟩
  · exact .cons (.agg rfl fun i v v' e e' => by simp at e) (.cons (.string _) (.cons (.sl (s := 3) 0 1 1 (by rfl) (by decide)) (.nil _)))
end AM
end Go.Proofs.YtdmbppgogdkpdaaGreatDoor
namespace Go.Proofs.YtdmbppgogdkpdaaGreatDoor
open Go.RowKit
theorem replK_len (old : List UInt8) (h1 : old ≠ []) : ∀ (k : Nat) (s : List UInt8), Lib.count s old = k → (Lib.replaceK old [] k s).length + k * old.length = s.length
  | 0, s, _ => by simp [Lib.replaceK]
  | k + 1, s, h => by
    obtain ⟨i, hi⟩ := Lib.index_of_count (s := s) (old := old) (by omega)
    have hc := Lib.count_hit h1 hi
    have hr := Lib.index_room s old (by omega)
    rw [hi] at hr
    have ih := replK_len old h1 k (s.drop (i + old.length)) (by omega)
    rw [Lib.replaceK_hit old [] k s i hi]
    simp only [List.append_nil, List.length_append, List.length_take, List.length_drop] at ih ⊢
    rw [Nat.succ_mul]
    omega
/-- A text without its parts. -/
def lessB (t sep : ByteArray) : ByteArray := ⟨(Lib.replaceAll t.data.toList sep.data.toList []).toArray⟩
theorem lessB_size (t sep : ByteArray) (h : 1 ≤ sep.size) : (lessB t sep).size + Lib.countB t sep * sep.size = t.size := by
  have h1 : sep.data.toList ≠ [] := fun e => by
    have : sep.size = sep.data.toList.length := by simp
    rw [e] at this
    have h0 : sep.size = 0 := this
    omega
  have e1 : (lessB t sep).size = (Lib.replaceK sep.data.toList [] (Lib.count t.data.toList sep.data.toList) t.data.toList).length := by
    show (Lib.replaceAll t.data.toList sep.data.toList []).toArray.size = _
    rw [List.size_toArray]
    unfold Lib.replaceAll Lib.replace Lib.replaceNum
    rw [if_neg (by simpa using h1), if_pos (Or.inl (by omega))]
  have := replK_len sep.data.toList h1 _ t.data.toList rfl
  rw [e1]
  have e2 : sep.size = sep.data.toList.length := by simp
  have e3 : t.size = t.data.toList.length := by simp
  rw [e2, e3]
  exact this
def MaxT (w : World) : Prop := ∃ m, w.cell? ⟨2, 0, none⟩ = some (.int .i64 m)
theorem MaxT.next {w w' : World} (h : MaxT w) (b : Below w.heap.size w w') : MaxT w' := by
  obtain ⟨m, hm⟩ := h
  exact ⟨m, (b.cell (p := ⟨2, 0, none⟩) (World.block_lt_of_cell? w _ hm)).trans hm⟩
namespace AM
abbrev toksR (t sep r : ByteArray) (m : Int) : Toks where
  kd _ := .i64
  i k := match k with
    | 2 => r.size
    | 9 => m
    | _ => 0
  s k := match k with
    | 0 => t
    | 1 => sep
    | _ => r
  b _ := false
def tabR' : TTab := ⟨fun _ _ _ => none, fun k s => bif Nat.beq k 1 && s.data.toList.isEmpty then some false else none, fun _ _ => none, fun op k u => match op, k, u with
  | .gtr, 2, .int .i64 255 => some (.bool false)
  | _, _, _ => none, fun _ _ _ => none, fun k => match k with
  | 2 => some 2
  | _ => none⟩
set_option maxRecDepth 100000 in
theorem tabR_ok (t sep r : ByteArray) (m : Int) (hs : 1 ≤ sep.size) (hr : r.size ≤ 255) : letI := toksR t sep r m; tabR'.Ok Tryz.prog := by
  letI := toksR t sep r m
  refine ⟨(fun _ _ _ _ h => by cases h), fun k s b h => ?_, (fun _ _ _ h => by cases h), fun op k u rr h ty w => ?_, (fun _ _ _ _ h => by cases h), fun k j h => ?_⟩
  · simp only [tabR'] at h
    cases hb : (Nat.beq k 1 && s.data.toList.isEmpty) with
    | false => rw [hb] at h; cases h
    | true =>
      rw [hb] at h
      cases h
      simp only [Bool.and_eq_true] at hb
      obtain rfl := Nat.eq_of_beq_eq_true hb.1
      have hs0 : s.size = 0 := by
        have : s.data.toList = [] := by simpa using hb.2
        have e : s.size = s.data.toList.length := by simp
        rw [e, this]; rfl
      show (sep == s) = false
      cases hq : (sep == s) with
      | false => rfl
      | true =>
        have := (Go.MapKept.bytes_beq _ _).1 hq
        rw [this] at hs
        omega
  · simp only [tabR'] at h
    split at h
    · cases h
      have hd : decide ((255 : Int) < (r.size : Int)) = false := decide_eq_false (by omega)
      show (binOp .gtr ty (.int .i64 (r.size : Int)) (.int .i64 255)).run Tryz.prog w = .ok (.bool false) w
      rw [← hd]
      simp [binOp, Op.intCmp, go_sem]
    · cases h
  · simp only [tabR'] at h
    split at h
    · cases h; exact ⟨rfl, rfl⟩
    · cases h
section
variable [Toks]
def SM : Cut := ⟨[], [(2, .cells [tI 9] 0 false false)], 0⟩
def ovR (call : ACall) : ACall := acallN 274 [tS 0, tS 1, .string ⟨#[]⟩] SM (tS 2) (acallK 126 [.agg (strTok 0).toArray] (.bool true) (acallK 126 [.agg (strTok 1).toArray] (.bool true) call))
def startR : AH := ⟨[((2 : Nat), Blk.cells [tI 9] 0 false false), (16, .cells [.int .i64 1, .int .i64 1, sl1 17, .int .i64 1, .int .i64 1, sl1 18, .int .i64 1, .int .i64 1, sl1 19] 28 false false), (17, .cells (strTok 0) 41 false false), (18, .cells (strTok 1) 41 false false), (19, .cells [.int .i64 2, .int .i64 0, .int .i64 0, .string ⟨#[]⟩, .bool false, .int .i64 0] 41 false false)].foldl (fun T x => T.set 40 x.1 x.2) .nil, 20⟩
theorem run_SUBST : (match (amZ ovR Tryz.prog ((envP Tryz.prog).tok tabR') eqP 1000 [] 60).1 16 [.agg #[], .string ⟨#[83, 85, 66, 83, 84, 73, 84, 85, 84, 69]⟩, .slice (some ⟨16, 0, none⟩) 3 3] startR with | some outs => outs.all fun p => oneB 131 (strTok 2) p.1 p.2 | none => false) = true := by kernel_rfl
/-- A cell of a variable. -/
theorem cell_of_rel {μ : Mp} {H : AH} {w0 : Base} {w : World} (h : Rel μ H w0 w) {g : Nat} {cs : List Value} {e : TypeId} {x rw' : Bool} (hg : g < glob) (hH : H.t.get g = some (.cells cs e x rw')) (i : Nat) (v : Value) (hv : cs[i]? = some v) : ∃ v', w.cell? ⟨g, i, none⟩ = some v' ∧ VR μ v v' := by
  obtain ⟨g', s, h1, h2, _⟩ := h.lies g _ hH
  obtain ⟨o, ho, C, fr, e', rfl, q1, _, q3, _, q5⟩ := h2 rfl
  obtain ⟨s', hs'⟩ := μ.gl g hg
  have e1 : some (g', s) = some (g, s') := h1.symm.trans hs'
  cases e1
  obtain ⟨v', h3, h4⟩ := q5 i v hv
  exact ⟨v', by unfold World.cell?; simp only [ho]; exact h3, h4⟩
end
set_option maxRecDepth 100000 in
theorem subLib_c (t sep : ByteArray) (ht : t.size ≤ 255) (hs : 1 ≤ sep.size) (hs2 : sep.size ≤ 255) (bG g1 g2 g3 : Nat) (w : World) (hG : Go.Proofs.YtdmbppgogdkpdaaGreatDoor.Blk w bG 28 #[.int .i64 1, .int .i64 1, .slice (some ⟨g1, 0, none⟩) 1 1, .int .i64 1, .int .i64 1, .slice (some ⟨g2, 0, none⟩) 1 1, .int .i64 1, .int .i64 1, .slice (some ⟨g3, 0, none⟩) 1 1]) (h1 : OneR w g1 (strV t)) (h2 : OneR w g2 (strV sep)) (h3 : OneR w g3 (strV ⟨#[]⟩)) (hm : MaxT w) :
    Calls Tryz.prog 16 #[.agg #[], .string ⟨#[83, 85, 66, 83, 84, 73, 84, 85, 84, 69]⟩, .slice (some ⟨bG, 0, none⟩) 3 3] w (LibO w (strV (lessB t sep))) := by
  obtain ⟨m, hm⟩ := hm
  have hl := lessB_size t sep hs
  letI := toksR t sep (lessB t sep) m
  have hov : ∀ call, CallOk Tryz.prog call → CallOk Tryz.prog (ovR call) := fun call hc => by
    refine acallN_ok (conc := #[.string t, .string sep, .string ⟨#[]⟩]) (rv := .string (lessB t sep)) (fun μ w0 n W hr => ?_) (fun μ args hl => ?_) (fun μ => .tokS _ _) _ (known_ok (l := [.agg #[.int .i64 2, .int .i64 0, .int .i64 0, .string t, .bool false, .int .i64 0]]) (by rfl) (by rfl) (fun W => right_str t ht W) _ (known_ok (l := [.agg #[.int .i64 2, .int .i64 0, .int .i64 0, .string sep, .bool false, .int .i64 0]]) (by rfl) (by rfl) (fun W => right_str sep hs2 W) call hc))
    · obtain ⟨v', h4, h5⟩ := cell_of_rel hr (g := 2) (by decide) (by rfl) 0 (tI 9) rfl
      have e5 : v' = .int .i64 m := vconc_inv 8 _ _ _ (by rfl) h5
      rw [e5] at h4
      exact Tryz.strings_ReplaceAll t sep ⟨#[]⟩ m W (by omega) h4 hs (by
        have := Lib.countB_mul_le sep hs t.size t (Nat.le_refl _)
        show t.size + Lib.countB t sep * 0 ≤ _
        omega)
    · have := lconc_inv (μ := μ) (vconc_inv 8) [tS 0, tS 1, .string ⟨#[]⟩] [.string t, .string sep, .string ⟨#[]⟩] args.toList (by rfl) hl
      apply Array.ext'
      rw [this]
  have hC := (amZ_ok (loops := 1000) (joins := []) hov (envP_ok.tok (tabR_ok t sep (lessB t sep) m hs (by omega))) eqP_ok mixed_P 60).1
  obtain ⟨eA, frA, h1⟩ := h1
  obtain ⟨eB, frB, h2⟩ := h2
  obtain ⟨eC, frC, h3⟩ := h3
  obtain ⟨C2, e2, fr2, hC2, hC0⟩ : ∃ C e fr, w.heap[2]? = some (.cells C e fr) ∧ C[0]? = some (.int .i64 m) := by
    unfold World.cell? at hm
    split at hm
    · rename_i C e fr hh
      exact ⟨C, e, fr, hh, hm⟩
    · cases hm
  refine one_calls (L := [((2 : Nat), (2 : Nat), C2.size, Blk.cells [tI 9] 0 false false), (16, bG, 9, .cells [.int .i64 1, .int .i64 1, sl1 17, .int .i64 1, .int .i64 1, sl1 18, .int .i64 1, .int .i64 1, sl1 19] 28 false false), (17, g1, 6, .cells (strTok 0) 41 false false), (18, g2, 6, .cells (strTok 1) 41 false false), (19, g3, 6, .cells [.int .i64 2, .int .i64 0, .int .i64 0, .string ⟨#[]⟩, .bool false, .int .i64 0] 41 false false)]) (N := 20) (hN := by decide) (hk := by simp) (hg := by simp [glob]) (H0 := startR) hC (x := strV (lessB t sep)) (k := 131) (z := strTok 2) (vs := [.agg #[], .string ⟨#[83, 85, 66, 83, 84, 73, 84, 85, 84, 69]⟩, .slice (some ⟨16, 0, none⟩) 3 3]) run_SUBST (by rfl) (by rfl) (rel_init _ _ _ (by decide) (by simp) (by simp [Blk.own]) ?_) ?_
  · intro x hx
    simp only [List.mem_cons, List.mem_nil_iff, or_false] at hx
    rcases hx with rfl | rfl | rfl | rfl | rfl
    · refine ⟨_, hC2, C2, fr2, e2, rfl, rfl, (fun h => by cases h), (fun h => by cases h), ?_, fun i v hv => ?_⟩
      · exact Nat.succ_le_of_lt (Array.getElem?_eq_some_iff.1 hC0).1
      · match i with
        | 0 => simp at hv; rw [← hv]; exact ⟨_, hC0, .tokI _ _⟩
        | n + 1 => simp at hv
    · refine ⟨_, hG, _, _, _, rfl, rfl, (fun h => by cases h), (fun h => by cases h), Nat.le_refl _, vr_cells (.cons (.int _ _) (.cons (.int _ _) (.cons (.sl (s := 6) 0 1 1 (by rfl) (by decide)) (.cons (.int _ _) (.cons (.int _ _) (.cons (.sl (s := 6) 0 1 1 (by rfl) (by decide)) (.cons (.int _ _) (.cons (.int _ _) (.cons (.sl (s := 6) 0 1 1 (by rfl) (by decide)) (.nil _))))))))))⟩
    · refine ⟨_, h1, _, _, _, rfl, rfl, (fun h => by cases h), (fun h => by cases h), Nat.le_refl _, vr_cells (lconc_lr (vconc_vr _ 8) _ _ (by rfl))⟩
    · refine ⟨_, h2, _, _, _, rfl, rfl, (fun h => by cases h), (fun h => by cases h), Nat.le_refl _, vr_cells (lconc_lr (vconc_vr _ 8) _ _ (by rfl))⟩
    · refine ⟨_, h3, _, _, _, rfl, rfl, (fun h => by cases h), (fun h => by cases h), Nat.le_refl _, vr_cells (lconc_lr (vconc_vr _ 8) _ _ (by rfl))⟩
  · exact .cons (.agg rfl fun i v v' e e' => by simp at e) (.cons (.string _) (.cons (.sl (s := 9) 0 3 3 (by rfl) (by decide)) (.nil _)))
end AM
end Go.Proofs.YtdmbppgogdkpdaaGreatDoor
namespace Go.Proofs.YtdmbppgogdkpdaaGreatDoor
open Go.RowKit
/-- An array of one value, in a block of its own. -/
def OneO (w : World) (x : Val) (e : Ending) (w' : World) : Prop := ∃ g, e = .returned (.agg #[.int .i64 1, .int .i64 1, .slice (some ⟨g, 0, none⟩) 1 1]) ∧ OneR w' g x ∧ w.heap.size ≤ g ∧ Below w.heap.size w w'
set_option maxRecDepth 100000 in
set_option maxHeartbeats 4000000 in
theorem one09_c (x : Val) (hr : RightV x) (hf : FitsV x) (w : World) : Calls Tryz.prog 19 #[.agg x.cs.toArray] w (OneO w x) := by
  have HR := Lib.hid hr
  obtain ⟨k, m, e, t, b, f⟩ := x
  have HV := Lib.hid (fun W => show Calls Tryz.prog 36 #[.agg #[.int .i64 k, .int .i64 m, .int .i64 e, .string t, .bool b, .int .i64 f]] W (RgV W ⟨k, m, e, t, b, f⟩) from rrightV_c ⟨k, m, e, t, b, f⟩ hf.1 hf.2.1 hf.2.2.1 hf.2.2.2 W)
  have B0 := Lib.hid (Bxs.start w [(41, #[.int .i64 k, .int .i64 m, .int .i64 e, .string t, .bool b, .int .i64 f]), (28, #[.int .i64 0, .int .i64 0, .slice none 0 0])])
  simp only [allocAll] at B0
  clear hr hf
  show Calls Tryz.prog 19 #[.agg #[.int .i64 k, .int .i64 m, .int .i64 e, .string t, .bool b, .int .i64 f]] w _
  go_enter Tryz.func19, Tryz.ntmps19
  go_wp2_with fail
  refine (HV.out _).mono ?_
  rintro y w1 ⟨b1, rfl, r1, hb⟩
  obtain rfl : b1 = true := r1.2 HR.out
  have B1 := Lib.hid (B0.out.next hb)
  clear hb B0 r1
  have BX := Lib.hid (show Blk w1 w.heap.size 41 #[.int .i64 k, .int .i64 m, .int .i64 e, .string t, .bool b, .int .i64 f] from B1.out.box 0 _ _ rfl)
  have c0 := BX.out.cell 0
  have c1 := BX.out.cell 1
  have c2 := BX.out.cell 2
  have c3 := BX.out.cell 3
  have c4 := BX.out.cell 4
  have c5 := BX.out.cell 5
  simp only [List.getElem?_toArray, List.getElem?_cons_zero, List.getElem?_cons_succ] at c0 c1 c2 c3 c4 c5
  have hal := (Below.refl _ w1).alloc (Nat.le_refl _) (.cells #[.int .i64 k, .int .i64 m, .int .i64 e, .string t, .bool b, .int .i64 f] 41)
  have B2 := Lib.hid (B1.out.next hal)
  have BN := Lib.hid (show Blk w1 (w.heap.size + 1) 28 #[.int .i64 0, .int .i64 0, .slice none 0 0] from B1.out.box 1 _ _ rfl)
  have e0 := BN.out.cell 0
  have e1 := BN.out.cell 1
  have e2 := BN.out.cell 2
  simp only [List.getElem?_toArray, List.getElem?_cons_zero, List.getElem?_cons_succ] at e0 e1 e2
  have f0 := BN.out.frozen 0
  have f1 := BN.out.frozen 1
  have f2 := BN.out.frozen 2
  have lX := BN.out.lt
  go_wp2_with fail
  change bodyPost _ _ _ _ _ ((put3 w1 (w.heap.size + 1) (.int .i64 1) (.int .i64 1) (.slice (some ⟨w1.heap.size, 0, none⟩) 1 1)).alloc (.cells #[.int .i64 k, .int .i64 m, .int .i64 e, .string t, .bool b, .int .i64 f] 41))
  have hsz : (put3 w1 (w.heap.size + 1) (.int .i64 1) (.int .i64 1) (.slice (some ⟨w1.heap.size, 0, none⟩) 1 1)).heap.size = w1.heap.size := by simp [put3]
  have BZ := Blk.new (put3 w1 (w.heap.size + 1) (.int .i64 1) (.int .i64 1) (.slice (some ⟨w1.heap.size, 0, none⟩) 1 1)) 41 #[.int .i64 k, .int .i64 m, .int .i64 e, .string t, .bool b, .int .i64 f]
  rw [hsz] at BZ
  have bX2 := Lib.hid ((blk_put3 BN.out (.int .i64 1) (.int .i64 1) (.slice (some ⟨w1.heap.size, 0, none⟩) 1 1)).alloc (.cells #[.int .i64 k, .int .i64 m, .int .i64 e, .string t, .bool b, .int .i64 f] 41))
  have HB2 := (below_put3 B1.out.below (Nat.le_succ _) (.int .i64 1) (.int .i64 1) (.slice (some ⟨w1.heap.size, 0, none⟩) 1 1)).alloc (by rw [hsz]; exact B1.out.below.size) (.cells #[.int .i64 k, .int .i64 m, .int .i64 e, .string t, .bool b, .int .i64 f] 41)
  clear hsz
  generalize (put3 w1 (w.heap.size + 1) (.int .i64 1) (.int .i64 1) (.slice (some ⟨w1.heap.size, 0, none⟩) 1 1)).alloc (.cells #[.int .i64 k, .int .i64 m, .int .i64 e, .string t, .bool b, .int .i64 f] 41) = W2 at *
  have d0 := bX2.out.cell 0
  have d1 := bX2.out.cell 1
  have d2 := bX2.out.cell 2
  simp only [List.getElem?_toArray, List.getElem?_cons_zero, List.getElem?_cons_succ] at d0 d1 d2
  exact bodyPost_ret (v := .agg #[.int .i64 1, .int .i64 1, .slice (some ⟨w1.heap.size, 0, none⟩) 1 1]) (by simp [results, Tryz.f19, go_sem, d0, d1, d2]) rfl ⟨_, rfl, ⟨_, _, BZ⟩, B1.out.below.size, HB2⟩
theorem fits_str (t : ByteArray) : FitsV (strV t) := by unfold FitsV strV; simp
set_option maxRecDepth 100000 in
set_option maxHeartbeats 4000000 in
theorem text_c (t : ByteArray) (ht : t.size ≤ 255) (w : World) : Calls Tryz.prog 18 #[.string t] w (OneO w (strV t)) := by
  have HO := Lib.hid (fun W => show Calls Tryz.prog 19 #[.agg #[.int .i64 2, .int .i64 0, .int .i64 0, .string t, .bool false, .int .i64 0]] W (OneO W (strV t)) from one09_c (strV t) (AM.str_right t ht) (fits_str t) W)
  have B0 := Lib.hid (Bxs.start w [(28, #[.int .i64 0, .int .i64 0, .slice none 0 0])])
  simp only [allocAll] at B0
  clear ht
  go_enter Tryz.func18, Tryz.ntmps18
  go_wp2_with fail
  refine (HO.out _).mono ?_
  rintro y w1 ⟨g, rfl, hO, hge, hb⟩
  have B1 := Lib.hid (B0.out.next hb)
  have HGE := Lib.hid (show w.heap.size < g from Nat.lt_of_lt_of_le (B0.out.box 0 _ _ rfl).lt hge)
  have HO1 := Lib.hid hO
  clear hb B0 hO hge
  have BN := Lib.hid (show Blk w1 w.heap.size 28 #[.int .i64 0, .int .i64 0, .slice none 0 0] from B1.out.box 0 _ _ rfl)
  have e0 := BN.out.cell 0
  have e1 := BN.out.cell 1
  have e2 := BN.out.cell 2
  simp only [List.getElem?_toArray, List.getElem?_cons_zero, List.getElem?_cons_succ] at e0 e1 e2
  have f0 := BN.out.frozen 0
  have f1 := BN.out.frozen 1
  have f2 := BN.out.frozen 2
  have lX := BN.out.lt
  go_wp2_with fail
  change bodyPost _ _ _ _ _ (put3 w1 w.heap.size (.int .i64 1) (.int .i64 1) (.slice (some ⟨g, 0, none⟩) 1 1))
  have bX2 := Lib.hid (blk_put3 BN.out (.int .i64 1) (.int .i64 1) (.slice (some ⟨g, 0, none⟩) 1 1))
  have HB2 := below_put3 B1.out.below (Nat.le_refl _) (.int .i64 1) (.int .i64 1) (.slice (some ⟨g, 0, none⟩) 1 1)
  have HO2 : Hid (OneR (put3 w1 w.heap.size (.int .i64 1) (.int .i64 1) (.slice (some ⟨g, 0, none⟩) 1 1)) g (strV t)) := by
    obtain ⟨e, fr, h⟩ := HO1.out
    exact ⟨e, fr, by rw [put3_heap _ _ _ _ _ (by have := HGE.out; omega)]; exact h⟩
  generalize put3 w1 w.heap.size (.int .i64 1) (.int .i64 1) (.slice (some ⟨g, 0, none⟩) 1 1) = W2 at *
  have d0 := bX2.out.cell 0
  have d1 := bX2.out.cell 1
  have d2 := bX2.out.cell 2
  simp only [List.getElem?_toArray, List.getElem?_cons_zero, List.getElem?_cons_succ] at d0 d1 d2
  exact bodyPost_ret (v := .agg #[.int .i64 1, .int .i64 1, .slice (some ⟨g, 0, none⟩) 1 1]) (by simp [results, Tryz.f18, go_sem, d0, d1, d2]) rfl ⟨_, rfl, HO2.out, Nat.le_of_lt HGE.out, HB2⟩
end Go.Proofs.YtdmbppgogdkpdaaGreatDoor
namespace Go.Proofs.YtdmbppgogdkpdaaGreatDoor
open Go.RowKit
set_option maxRecDepth 100000 in
set_option maxHeartbeats 4000000 in
theorem call2O_c (nb : ByteArray) (S : Option Addr) (n c bL : Nat) (x : Val) (w : World) (hL : Blk w bL 31 #[]) (hc : ∀ W, Below w.heap.size w W → Calls Tryz.prog 16 #[.agg #[], .string nb, .slice S n c] W (LibO W x)) :
    Calls Tryz.prog 20 #[.string nb, .slice S n c, .pointer (some ⟨bL, 0, none⟩)] w (OneO w x) := by
  have B0 := Lib.hid (Bxs.start w [(28, #[.int .i64 0, .int .i64 0, .slice none 0 0])])
  simp only [allocAll] at B0
  have HC := Lib.hid hc
  clear hc hL
  go_enter Tryz.func20, Tryz.ntmps20
  go_wp2_with fail
  refine (HC.out _ B0.out.below).mono ?_
  rintro y w1 ⟨g, rfl, hO, hge, hb⟩
  have hal := (Below.refl _ w1).alloc (Nat.le_refl _) (.cells #[.int .i64 1, .int .i64 1, .slice (some ⟨g, 0, none⟩) 1 1] 28)
  have B1 := Lib.hid ((B0.out.next hb).next hal)
  have HGE := Lib.hid (show w.heap.size < g from Nat.lt_of_lt_of_le (B0.out.box 0 _ _ rfl).lt hge)
  have HO1 := Lib.hid (hO.next hal)
  clear hb B0 hO hge hal HC
  have BN := Lib.hid (show Blk (w1.alloc (.cells #[.int .i64 1, .int .i64 1, .slice (some ⟨g, 0, none⟩) 1 1] 28)) w.heap.size 28 #[.int .i64 0, .int .i64 0, .slice none 0 0] from B1.out.box 0 _ _ rfl)
  have BM := Lib.hid (Blk.new w1 28 #[.int .i64 1, .int .i64 1, .slice (some ⟨g, 0, none⟩) 1 1])
  have a0 := BM.out.cell 0
  have a1 := BM.out.cell 1
  have a2 := BM.out.cell 2
  simp only [List.getElem?_toArray, List.getElem?_cons_zero, List.getElem?_cons_succ] at a0 a1 a2
  have e0 := BN.out.cell 0
  have e1 := BN.out.cell 1
  have e2 := BN.out.cell 2
  simp only [List.getElem?_toArray, List.getElem?_cons_zero, List.getElem?_cons_succ] at e0 e1 e2
  have f0 := BN.out.frozen 0
  have f1 := BN.out.frozen 1
  have f2 := BN.out.frozen 2
  have lX := BN.out.lt
  go_wp2_with fail
  change bodyPost _ _ _ _ _ (put3 (w1.alloc (.cells #[.int .i64 1, .int .i64 1, .slice (some ⟨g, 0, none⟩) 1 1] 28)) w.heap.size (.int .i64 1) (.int .i64 1) (.slice (some ⟨g, 0, none⟩) 1 1))
  have bX2 := Lib.hid (blk_put3 BN.out (.int .i64 1) (.int .i64 1) (.slice (some ⟨g, 0, none⟩) 1 1))
  have HB2 := below_put3 B1.out.below (Nat.le_refl _) (.int .i64 1) (.int .i64 1) (.slice (some ⟨g, 0, none⟩) 1 1)
  have HO2 : Hid (OneR (put3 (w1.alloc (.cells #[.int .i64 1, .int .i64 1, .slice (some ⟨g, 0, none⟩) 1 1] 28)) w.heap.size (.int .i64 1) (.int .i64 1) (.slice (some ⟨g, 0, none⟩) 1 1)) g x) := by
    obtain ⟨e, fr, h⟩ := HO1.out
    exact ⟨e, fr, by rw [put3_heap _ _ _ _ _ (by have := HGE.out; omega)]; exact h⟩
  generalize put3 (w1.alloc (.cells #[.int .i64 1, .int .i64 1, .slice (some ⟨g, 0, none⟩) 1 1] 28)) w.heap.size (.int .i64 1) (.int .i64 1) (.slice (some ⟨g, 0, none⟩) 1 1) = W2 at *
  have d0 := bX2.out.cell 0
  have d1 := bX2.out.cell 1
  have d2 := bX2.out.cell 2
  simp only [List.getElem?_toArray, List.getElem?_cons_zero, List.getElem?_cons_succ] at d0 d1 d2
  exact bodyPost_ret (v := .agg #[.int .i64 1, .int .i64 1, .slice (some ⟨g, 0, none⟩) 1 1]) (by simp [results, Tryz.f20, go_sem, d0, d1, d2]) rfl ⟨_, rfl, HO2.out, Nat.le_of_lt HGE.out, HB2⟩
set_option maxRecDepth 100000 in
set_option maxHeartbeats 4000000 in
theorem call2A_c (nb : ByteArray) (S : Option Addr) (n c bL : Nat) (r q : Int) (l : List Val) (w : World) (hL : Blk w bL 31 #[]) (hc : ∀ W, Below w.heap.size w W → Calls Tryz.prog 16 #[.agg #[], .string nb, .slice S n c] W (CallA W r q l)) :
    Calls Tryz.prog 20 #[.string nb, .slice S n c, .pointer (some ⟨bL, 0, none⟩)] w (RetA w r q l) := by
  have B0 := Lib.hid (Bxs.start w [(28, #[.int .i64 0, .int .i64 0, .slice none 0 0])])
  simp only [allocAll] at B0
  have HC := Lib.hid hc
  clear hc hL
  go_enter Tryz.func20, Tryz.ntmps20
  go_wp2_with fail
  refine (HC.out _ B0.out.below).mono ?_
  rintro y w1 ⟨A9, n9, ca9, rfl, hn9, hA9, hF9, hb⟩
  have hal := (Below.refl _ w1).alloc (Nat.le_refl _) (.cells #[.int .i64 r, .int .i64 q, .slice A9 n9 ca9] 28)
  have B1 := Lib.hid ((B0.out.next hb).next hal)
  have HF9 := Lib.hid (show ∀ a, A9 = some a → w.heap.size < a.block from fun a e => Nat.lt_of_lt_of_le (B0.out.box 0 _ _ rfl).lt (hF9 a e))
  have HN9 := Lib.hid hn9
  have HA9 := Lib.hid (manyR_put3 (hA9.next hal) (X := w.heap.size) (fun a e => by have := HF9.out a e; omega) (.int .i64 r) (.int .i64 q) (.slice A9 n9 ca9))
  clear hb B0 hn9 hA9 hF9 hal HC
  have BN := Lib.hid (show Blk (w1.alloc (.cells #[.int .i64 r, .int .i64 q, .slice A9 n9 ca9] 28)) w.heap.size 28 #[.int .i64 0, .int .i64 0, .slice none 0 0] from B1.out.box 0 _ _ rfl)
  have BM := Lib.hid (Blk.new w1 28 #[.int .i64 r, .int .i64 q, .slice A9 n9 ca9])
  have a0 := BM.out.cell 0
  have a1 := BM.out.cell 1
  have a2 := BM.out.cell 2
  simp only [List.getElem?_toArray, List.getElem?_cons_zero, List.getElem?_cons_succ] at a0 a1 a2
  have e0 := BN.out.cell 0
  have e1 := BN.out.cell 1
  have e2 := BN.out.cell 2
  simp only [List.getElem?_toArray, List.getElem?_cons_zero, List.getElem?_cons_succ] at e0 e1 e2
  have f0 := BN.out.frozen 0
  have f1 := BN.out.frozen 1
  have f2 := BN.out.frozen 2
  have lX := BN.out.lt
  go_wp2_with fail
  change bodyPost _ _ _ _ _ (put3 (w1.alloc (.cells #[.int .i64 r, .int .i64 q, .slice A9 n9 ca9] 28)) w.heap.size (.int .i64 r) (.int .i64 q) (.slice A9 n9 ca9))
  have bX2 := Lib.hid (blk_put3 BN.out (.int .i64 r) (.int .i64 q) (.slice A9 n9 ca9))
  have HB2 := below_put3 B1.out.below (Nat.le_refl _) (.int .i64 r) (.int .i64 q) (.slice A9 n9 ca9)
  generalize put3 (w1.alloc (.cells #[.int .i64 r, .int .i64 q, .slice A9 n9 ca9] 28)) w.heap.size (.int .i64 r) (.int .i64 q) (.slice A9 n9 ca9) = W2 at *
  have d0 := bX2.out.cell 0
  have d1 := bX2.out.cell 1
  have d2 := bX2.out.cell 2
  simp only [List.getElem?_toArray, List.getElem?_cons_zero, List.getElem?_cons_succ] at d0 d1 d2
  exact bodyPost_ret (v := .agg #[.int .i64 r, .int .i64 q, .slice A9 n9 ca9]) (by simp [results, Tryz.f20, go_sem, d0, d1, d2]) rfl ⟨_, _, _, rfl, HN9.out, HA9.out, fun a e => Nat.le_of_lt (HF9.out a e), HB2⟩
end Go.Proofs.YtdmbppgogdkpdaaGreatDoor
