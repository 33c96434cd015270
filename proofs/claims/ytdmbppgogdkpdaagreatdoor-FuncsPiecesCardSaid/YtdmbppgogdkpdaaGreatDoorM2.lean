/-
  The abstract machine: a table that a closed call lays, and what is found in it. No condition.
  FuncsShapes: what the tables of the families of numbers and of arrays hold for the names that the law asks; the other families do not know the names of the arrays' functions (reckoned by the abstract machine). No condition.
-/
import Derived.Test.YtdmbppgogdkpdaaGreatDoorVE
import Derived.Test.YtdmbppgogdkpdaaGreatDoorProg
import Derived.KernelRfl
set_option linter.unusedSectionVars false
namespace Go.Proofs.YtdmbppgogdkpdaaGreatDoor
namespace AM
open Go.RowKit
variable [Toks]
section
variable {P : Program} {E : Env} {Q : Eqs} {μ : Mp} {H : AH} {w0 : Base} {w : World}
theorem Rel.on {w' : World} (h : Rel μ H w0 w) (k : Below w.heap.size w w') : Rel μ H w0 w' where
  os := k.os.trans h.os
  tape := k.tape.trans h.tape
  output := k.output.trans h.output
  size := Nat.le_trans h.size k.size
  keep g hg := (k.block g (Nat.lt_of_lt_of_le (w0.bound g hg) h.size)).trans (h.keep g hg)
  small := h.small
  num := h.num
  lies j b hb := by
    obtain ⟨g, s, e, h1, h2⟩ := h.lies j b hb
    refine ⟨g, s, e, fun hl => ?_, h2⟩
    obtain ⟨o, ho, hr⟩ := h1 hl
    exact ⟨o, (k.block g (Array.getElem?_eq_some_iff.1 ho).1).trans ho, hr⟩
  apart := h.apart
  ro := h.ro
theorem alookup_is (hE : E.Ok P) (hQ : Q.Ok P) (h : Rel μ H w0 w) {t : Nat} {m m' key key' v : Value} {ok : Bool} (hm : VR μ m m') (hk : VR μ key key') (e : alookup E Q H t m key ok = some v) : ∃ v', (Instr.lookup t m' key' ok).run P w = .ok v' w ∧ VR μ v v' := by
  unfold alookup at e
  split at e
  · rename_i kt el hu
    split at e
    · rename_i i d hi hkt
      split at e
      · rename_i z hz
        cases hb : (cval 6 z && acheck E 40 kt key) with
        | false => rw [hb] at e; cases e
        | true =>
          rw [hb, cond_true] at e
          rw [Bool.and_eq_true] at hb
          have hck : ∀ em, (Instr.checkKey em 10000 kt key').run P w = .ok () w := fun em => acheck_ok hE 40 kt key key' 10000 em (by decide) hk hb.2
          have fin : ∀ (es : List (Value × Value × Nat)) (F : Array MapEntry), MR μ es F.toList →
              ((m' = .map none ∧ F = #[]) ∨ ∃ g n, m' = .map (some g) ∧ w.heap[g]? = some (.map F n)) →
              (match afind E Q kt key es 0 with
                | some (some (_, v)) => some (bif ok then .tuple #[v, .bool true] else v)
                | some none => some (bif ok then .tuple #[z, .bool false] else z)
                | none => none) = some v → (∃ v', (Instr.lookup t m' key' ok).run P w = .ok v' w ∧ VR μ v v') := by
            intro es F hF hrun e
            split at e
            · rename_i j u hf
              obtain ⟨r', q1, q2⟩ := afind_ok hE hQ h hkt hk hF hf
              cases r' with
              | none => exact q2.elim
              | some r' =>
                obtain ⟨j', u'⟩ := r'
                obtain ⟨rfl, q3⟩ := q2
                cases e
                refine ⟨if ok then .tuple #[u', .bool true] else u', ?_, ?_⟩
                · rcases hrun with ⟨rfl, rfl⟩ | ⟨g, n, rfl, hF2⟩
                  · simp only [Instr.lookup, Sem.run_bind, run_und hE hu, Result.andThen_ok, hck, q1, Sem.run_pure]
                  · simp only [Instr.lookup, Sem.run_bind, run_und hE hu, Result.andThen_ok, hck, q1, Sem.run_pure, run_getMap hF2]
                · cases ok
                  · exact q3
                  · exact q3.pair true
            · rename_i hf
              obtain ⟨r', q1, q2⟩ := afind_ok hE hQ h hkt hk hF hf
              cases r' with
              | some r' => exact q2.elim
              | none =>
                cases e
                have hzr := cval_ok μ 6 z hb.1
                refine ⟨if ok then .tuple #[z, .bool false] else z, ?_, ?_⟩
                · rcases hrun with ⟨rfl, rfl⟩ | ⟨g, n, rfl, hF2⟩
                  · simp only [Instr.lookup, Sem.run_bind, run_und hE hu, Result.andThen_ok, hck, q1, Sem.run_pure, run_zero hE hi hz]
                  · simp only [Instr.lookup, Sem.run_bind, run_und hE hu, Result.andThen_ok, hck, q1, Sem.run_pure, run_zero hE hi hz, run_getMap hF2]
                · cases ok
                  · exact hzr
                  · exact hzr.pair false
            · cases e
          split at e
          · rename_i es hes
            split at hes
            · cases hes; cases hm
              exact fin [] #[] ⟨rfl, by simp⟩ (.inl ⟨rfl, rfl⟩) e
            · split at hes
              · rename_i es2 n hkk
                cases hes
                cases hm with
                | map hmm =>
                  obtain ⟨F, hF, hMR⟩ := h.mapR hkk hmm
                  exact fin _ F hMR (.inr ⟨_, _, rfl, hF⟩) e
              · cases hes
            · cases hes
          · cases e
      · cases e
    · cases e
  · cases e
/-- A value that stands for itself. -/
def plainV : Nat → Value → Bool
  | 0, _ => false
  | n + 1, v => match v with
    | .agg c => c.toList.all (plainV n)
    | .tuple c => c.toList.all (plainV n)
    | .func (.func _) e c => e.isEmpty && c.isEmpty
    | .slice none _ _ => true
    | v => isScalar v
theorem plain_arr {n : Nat} (ih : ∀ v v', plainV n v = true → VR μ v v' → v' = v) {c c' : Array Value} (h : c.toList.all (plainV n) = true) (hs : c.size = c'.size) (hr : ∀ (i : Nat) (v v' : Value), c[i]? = some v → c'[i]? = some v' → VR μ v v') : c' = c := by
  apply Array.ext
  · exact hs.symm
  · intro i h1 h2
    have hp : plainV n c[i] = true := List.all_eq_true.1 h _ (Array.getElem_mem_toList h2)
    exact ih _ _ hp (hr i _ _ (Array.getElem?_eq_getElem h2) (Array.getElem?_eq_getElem h1))
theorem plain_inv : ∀ (n : Nat) (v v' : Value), plainV n v = true → VR μ v v' → v' = v
  | 0, _, _, h, _ => by cases h
  | n + 1, v, v', h, hv => by
    unfold plainV at h
    split at h
    · cases hv with
      | agg h1 h2 => rw [plain_arr (plain_inv n) h h1 h2]
    · cases hv with
      | tuple h1 h2 => rw [plain_arr (plain_inv n) h h1 h2]
    · rw [Bool.and_eq_true] at h
      cases hv with
      | func f s1 _ s2 _ =>
        rename_i a' c' _ _
        have e1 : a' = #[] := Array.eq_empty_of_size_eq_zero (by rw [← s1]; simpa using h.1)
        have e2 : c' = #[] := Array.eq_empty_of_size_eq_zero (by rw [← s2]; simpa using h.2)
        have e3 := Array.isEmpty_iff.1 h.1
        have e4 := Array.isEmpty_iff.1 h.2
        rw [e1, e2, e3, e4]
    · cases hv; rfl
    · exact hv.scalar h
/-- A closed call, all of whose endings pass a look. -/
theorem closed_calls {call : ACall} (hC : CallOk P call) {f : Nat} {r : Value → AH → Bool} (h : (match call f [] (tabsH []) with | some outs => outs.all fun p => r p.1 p.2 | none => false) = true) (w : World) :
    Calls P f #[] w fun e w' => ∃ ν v v' H, r v H = true ∧ e = .returned v' ∧ Rel ν H (baseAt w) w' ∧ VR ν v v' := by
  split at h
  · rename_i outs h0
    have main := hC (baseAt w) f [] (tabsH []) outs (mapAt w) #[] w h0 (rel_tabs (ts := []) (by rfl) (fun x hx => by simp at hx)) (.nil _)
    refine (callsIn_wide (n := 0)).1 (CallsIn.mono (callsIn_fw (r' := none) main) ?_)
    rintro _ w' ⟨p, hp, ν, v', rfl, _, k2, k3⟩
    exact ⟨ν, p.1, v', p.2, List.all_eq_true.1 h p hp, rfl, k2, k3⟩
  · cases h
theorem Rel.belowB {ν : Mp} {H : AH} {w w' : World} (h : Rel ν H (baseAt w) w') : Below w.heap.size w w' := ⟨h.os, h.tape, h.output, h.size, fun k hk => h.keep k hk⟩
def lookFn (E : Env) (Q : Eqs) (t : Nat) (s : ByteArray) (v x : Value) (H : AH) : Bool := match alookup E Q H t v (.string s) true with
  | some y => veq 40 y x
  | none => false
theorem lookFn_ok (hE : E.Ok P) (hQ : Q.Ok P) {ν : Mp} {w w' : World} {t : Nat} {s : ByteArray} {v v' x : Value} {H : AH} (h : Rel ν H (baseAt w) w') (hv : VR ν v v') (hb : lookFn E Q t s v x H = true) (hu : plainV 8 x = true) (W : World) (k : Below w'.heap.size w' W) :
    (Instr.lookup t v' (.string s) true).run P W = .ok x W := by
  unfold lookFn at hb
  split at hb
  · rename_i y hy
    obtain ⟨z, hz1, hz2⟩ := alookup_is hE hQ (h.on k) hv (.string s) hy
    rw [veq_ok _ _ _ hb] at hz2
    rw [hz1, plain_inv 8 _ _ hu hz2]
  · cases hb
/-- A call of a text and of one array, neither of which it reads further. -/
def absArr : Value := .slice (some ⟨16, 0, none⟩) 1 (3 * big + 1)
def tellsT (r : Option Outs) (v : Value) : Bool := match r with
  | some outs => outs.all fun p => veq 40 p.1 v
  | none => false
theorem flat_calls {call : ACall} (hC : CallOk P call) {f : Nat} {name : ByteArray} {x : Value} (h : tellsT (call f [.string name, absArr] ⟨.nil, 17⟩) x = true) (hu : plainV 8 x = true) (s sc : Nat) (hs : 1 ≤ sc) (w : World) :
    Calls P f #[.string name, .slice (some ⟨s, 0, none⟩) 1 sc] w fun e w' => e = .returned x ∧ Below w.heap.size w w' := by
  let μ : Mp := ⟨fun k => if k < glob then some (k, sizeAt w k) else if k = 16 then some (s, sc * 3) else none, 17, fun k hk => by
    have h1 : ¬ k < glob := by unfold glob; omega
    simp only [if_neg h1]; rw [if_neg (by omega)], fun k hk => ⟨sizeAt w k, if_pos hk⟩⟩
  have hrel : Rel μ ⟨.nil, 17⟩ (baseAt w) w := ⟨rfl, rfl, rfl, Nat.le_refl _, fun _ _ => rfl, by decide, rfl, (fun k b hk => by cases hk), (fun k j b c hk => by cases hk), (fun k b hk => by cases hk)⟩
  have h16 : μ 16 = some (s, sc * 3) := by
    show (if 16 < glob then some (16, sizeAt w 16) else if 16 = 16 then some (s, sc * 3) else none) = _
    rw [if_neg (by unfold glob; omega), if_pos rfl]
  unfold tellsT at h
  split at h
  · rename_i outs h0
    have main := hC (baseAt w) f [.string name, absArr] ⟨.nil, 17⟩ outs μ #[.string name, .slice (some ⟨s, 0, none⟩) 1 sc] w h0 hrel (.cons (.string name) (.cons (.slx 0 1 1 sc 3 h16 (by omega) (by omega) (by omega) hs (by decide)) (.nil _)))
    refine (callsIn_wide (n := 0)).1 (CallsIn.mono (callsIn_fw (r' := none) main) ?_)
    rintro _ w' ⟨p, hp, ν, v', rfl, _, k2, k3⟩
    have hb := List.all_eq_true.1 h p hp
    rw [veq_ok _ _ _ hb] at k3
    exact ⟨by rw [plain_inv 8 _ _ hu k3], k2.os, k2.tape, k2.output, k2.size, fun k hk => k2.keep k hk⟩
  · cases h
end
end AM
end Go.Proofs.YtdmbppgogdkpdaaGreatDoor
namespace Go.Proofs.YtdmbppgogdkpdaaGreatDoor
namespace AM
open Go.RowKit
@[reducible] def noToks : Toks := ⟨fun _ => .i64, fun _ => 0, fun _ => ⟨#[]⟩, fun _ => false⟩
theorem small_P : smallB Tryz.prog = true := by kernel_rfl
theorem mixed_P : Tryz.prog.follows .mixedOrders = true := by kernel_rfl
theorem exts_P : ExtsOk Tryz.prog [] := fun x hx => by simp at hx
theorem ids_P : IdsOk Tryz.prog [] := fun f hf => by simp at hf
def envP (P : Program) : Env := envOf P [] []
def eqP : Eqs := eqsOf [39, 41]
theorem eqs_P : eqsB Tryz.prog [39, 41] = true := by kernel_rfl
section
variable [Toks]
theorem envP_ok : (envP Tryz.prog).Ok Tryz.prog := envOf_ok small_P exts_P ids_P
theorem eqP_ok : eqP.Ok Tryz.prog := eqsOf_ok eqs_P
def amP (P : Program) : ACall × ARound := am P (envP P) eqP 1000 [] 60
theorem amP_ok : CallOk Tryz.prog (amP Tryz.prog).1 ∧ RoundOk Tryz.prog (amP Tryz.prog).2 := am_ok envP_ok eqP_ok mixed_P 60
def lookA (P : Program) (v : Value) (H : AH) : Bool := lookFn (envP P) eqP 114 ⟨#[67, 79, 76, 85, 77, 78, 83]⟩ v (.tuple #[.agg #[.int .i64 1, .int .i64 1, .func (.func 202) #[] #[]], .bool true]) H && lookFn (envP P) eqP 114 ⟨#[82, 79, 87, 83]⟩ v (.tuple #[.agg #[.int .i64 1, .int .i64 1, .func (.func 209) #[] #[]], .bool true]) H && lookFn (envP P) eqP 114 ⟨#[84, 79, 67, 79, 76]⟩ v (.tuple #[.agg #[.int .i64 1, .int .i64 1, .func (.func 213) #[] #[]], .bool true]) H && lookFn (envP P) eqP 114 ⟨#[84, 79, 82, 79, 87]⟩ v (.tuple #[.agg #[.int .i64 1, .int .i64 1, .func (.func 216) #[] #[]], .bool true]) H && lookFn (envP P) eqP 114 ⟨#[84, 82, 65, 78, 83, 80, 79, 83, 69]⟩ v (.tuple #[.agg #[.int .i64 1, .int .i64 1, .func (.func 217) #[] #[]], .bool true]) H
theorem tab_A : (match (amP Tryz.prog).1 99 [] (tabsH []) with | some outs => outs.all fun p => lookA Tryz.prog p.1 p.2 | none => false) = true := by kernel_rfl
theorem none_fmath_COLUMNS : tellsT ((amP Tryz.prog).1 43 [.string ⟨#[67, 79, 76, 85, 77, 78, 83]⟩, absArr] ⟨.nil, 17⟩) (.tuple #[.agg #[.int .i64 0, .int .i64 0, .slice none 0 0], .bool false]) = true := by kernel_rfl
theorem none_ftext_COLUMNS : tellsT ((amP Tryz.prog).1 46 [.string ⟨#[67, 79, 76, 85, 77, 78, 83]⟩, absArr] ⟨.nil, 17⟩) (.tuple #[.agg #[.int .i64 0, .int .i64 0, .slice none 0 0], .bool false]) = true := by kernel_rfl
theorem none_flogic_COLUMNS : tellsT ((amP Tryz.prog).1 49 [.string ⟨#[67, 79, 76, 85, 77, 78, 83]⟩, absArr] ⟨.nil, 17⟩) (.tuple #[.agg #[.int .i64 0, .int .i64 0, .slice none 0 0], .bool false]) = true := by kernel_rfl
theorem none_flook_COLUMNS : tellsT ((amP Tryz.prog).1 52 [.string ⟨#[67, 79, 76, 85, 77, 78, 83]⟩, absArr] ⟨.nil, 17⟩) (.tuple #[.agg #[.int .i64 0, .int .i64 0, .slice none 0 0], .bool false]) = true := by kernel_rfl
end
end AM
end Go.Proofs.YtdmbppgogdkpdaaGreatDoor
