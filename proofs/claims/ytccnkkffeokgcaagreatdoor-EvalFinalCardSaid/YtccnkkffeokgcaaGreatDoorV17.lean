/-
  The abstract machine: one operation, other than a call. No condition.
-/
import Derived.Test.YtccnkkffeokgcaaGreatDoorV16
namespace Go.Proofs.YtccnkkffeokgcaaGreatDoor
namespace AM
open Go.RowKit

section
variable {P : Program} {E : Env} {Q : Eqs} {μ : Mp} {H : AH} {w0 : Base} {w : World} {T : Nat → Option Value} {a : Act}
def aevals (T : Nat → Option Value) : List Operand → Option (List Value)
  | [] => some []
  | x :: xs => match aeval T x, aevals T xs with
    | some v, some l => some (v :: l)
    | _, _ => none
theorem aevals_ok (h : TR μ T a.tmps) : ∀ (xs : List Operand) (l : List Value), aevals T xs = some l → LR μ l (xs.map a.eval)
  | [], l, e => by cases e; exact .nil μ
  | x :: xs, l, e => by
    simp only [aevals] at e
    split at e
    · rename_i v m hv hm
      cases e
      exact .cons (aeval_ok h hv) (aevals_ok h xs m hm)
    · cases e
def aparts (T : Nat → Option Value) : List (Nat × Operand) → Option (List (Nat × Value))
  | [] => some []
  | (i, x) :: xs => match aeval T x, aparts T xs with
    | some v, some l => some ((i, v) :: l)
    | _, _ => none
theorem aparts_ok (h : TR μ T a.tmps) : ∀ (xs : List (Nat × Operand)) (l : List (Nat × Value)), aparts T xs = some l → PR μ l (xs.map fun (i, x) => (i, a.eval x))
  | [], l, e => by cases e; trivial
  | (i, x) :: xs, l, e => by
    simp only [aparts] at e
    split at e
    · rename_i v m hv hm
      cases e
      exact ⟨rfl, aeval_ok h hv, aparts_ok h xs m hm⟩
    · cases e
def aopt (T : Nat → Option Value) : Option Operand → Option (Option Value)
  | none => some none
  | some x => match aeval T x with
    | some v => some (some v)
    | none => none
theorem aopt_ok (h : TR μ T a.tmps) {x : Option Operand} {v : Option Value} (e : aopt T x = some v) : OR μ v (x.map a.eval) := by
  cases x with
  | none => cases e; trivial
  | some x =>
    simp only [aopt] at e
    split at e
    · rename_i u hu; cases e; exact aeval_ok h hu
    · cases e
def abuildSlice (E : Env) (H : AH) (t len : Nat) (ps : List (Nat × Value)) : Option (Value × AH) := match E.und t with
  | some (.slice el) => match E.info el with
    | some i => match i.zero with
      | some z =>
        let l := arep (bif Nat.beq (len * i.size) 0 then #[] else z.cells) (len * i.size)
        bif l.all (cval 6) && Nat.ble (len * i.size) 1048576 then (match afill (fun k => some (k * i.size, i.size)) l ps with
          | some r => arow H el r len len
          | none => none) else none
      | none => none
    | none => none
  | _ => none
theorem abuildSlice_ok (hE : E.Ok P) (h : Rel μ H w0 w) {t len : Nat} {ps : List (Nat × Value)} {ps' : Array (Nat × Value)} {v : Value} {H' : AH} (hp : PR μ ps ps'.toList) (e : abuildSlice E H t len ps = some (v, H')) : GotV P (Instr.buildSlice t len ps') μ w0 w v H' := by
  unfold abuildSlice at e
  split at e
  · rename_i el hu
    split at e
    · rename_i i hi
      split at e
      · rename_i z hz
        dsimp only at e
        cases hc : ((arep (bif Nat.beq (len * i.size) 0 then #[] else z.cells) (len * i.size)).all (cval 6) && Nat.ble (len * i.size) 1048576) with
        | false => rw [hc] at e; cases e
        | true =>
          rw [hc, cond_true] at e
          rw [Bool.and_eq_true] at hc
          have hle := Nat.le_of_ble_eq_true hc.2
          split at e
          · rename_i r hr
            obtain ⟨r', h1, h2⟩ := afill_ok (place' := fun k => some (k * i.size, i.size)) (fun k => rfl) ps ps'.toList _ r ((Array.range (len * i.size)).map ((bif Nat.beq (len * i.size) 0 then #[] else z.cells)[· % (bif Nat.beq (len * i.size) 0 then #[] else z.cells).size]!)) hp (by rw [arep_eq]; exact LR.refl_of hc.1) hr
            obtain ⟨ν, v', w', r1, r2⟩ := arow_ok (P := P) h h2 e
            refine ⟨ν, v', w', ?_, r2⟩
            rw [← r1]
            simp only [Instr.buildSlice, Sem.run_bind, run_und hE hu, run_size hE hi, Result.andThen_ok]
            rw [if_neg (by omega)]
            by_cases h0 : len * i.size = 0
            · rw [h0] at h1
              simp only [show Nat.beq 0 0 = true from rfl, cond_true] at h1
              rw [if_pos h0, h0]
              simp only [Sem.run_bind, Sem.run_pure, Result.andThen_ok, h1]
            · rw [beq_ne h0, cond_false] at h1
              rw [if_neg h0]
              simp only [Sem.run_bind, run_zero hE hi hz, Result.andThen_ok, Sem.run_pure, h1]
          · cases e
      · cases e
    · cases e
  · cases e
def optSc : Option Value → Bool
  | none => true
  | some v => isScalar v
theorem OR.scalar {x x' : Option Value} (h : OR μ x x') (hs : optSc x = true) : x' = x := by
  cases x with
  | none => cases x' with
    | none => rfl
    | some _ => exact h.elim
  | some v => cases x' with
    | none => exact h.elim
    | some u => rw [VR.scalar h hs]
def pairH (H : AH) (r : Option Value) : Option (Value × AH) := match r with
  | some v => some (v, H)
  | none => none
def pairU (r : Option AH) : Option (Value × AH) := match r with
  | some H => some (undef, H)
  | none => none
def aop (P : Program) (E : Env) (Q : Eqs) (T : Nat → Option Value) (H : AH) : Op → Option (Value × AH)
  | .move x | .assign x => pairH H (aeval T x)
  | .pick c x y => match aeval T c with
    | some (.bool t) => pairH H (bif t then aeval T x else aeval T y)
    | _ => none
  | .alloc e => match E.info e with
    | some i => match i.zero with
      | some z => bif z.cells.toList.all (cval 6) then anew H e z.cells.toList else none
      | none => none
    | none => none
  | .box e x => match aeval T x with
    | some v => anew H e v.cells.toList
    | none => none
  | .build t ps => match aparts T ps.toList with
    | some l => pairH H (abuild E t l)
    | none => none
  | .buildSlice t n ps => match aparts T ps.toList with
    | some l => abuildSlice E H t n l
    | none => none
  | .load t x => match aeval T x with
    | some v => pairH H (aload E H t v)
    | none => none
  | .store t x y => match aeval T x, aeval T y with
    | some v, some u => pairU (astore E H t u v)
    | _, _ => none
  | .nilCheck x => match aeval T x with
    | some v => pairH H (anilCheck v)
    | none => none
  | .binOp op t x y _ => match aeval T x, aeval T y with
    | some v, some u => pairH H (abin P E Q H op t (isConstB x) (isConstB y) v u)
    | _, _ => none
  | .unOp op _ x => match aeval T x with
    | some v => pairH H (aun P op v)
    | none => none
  | .convert s d x => match aeval T x with
    | some v => aconvP P E H s d v
    | none => none
  | .makeInterface t x => match aeval T x, E.und t with
    | some v, some d => match d with
      | .interface _ => none
      | _ => some (.iface t v, H)
    | _, _ => none
  | .makeFunc (.func f) xs ys => match aevals T xs.toList, aevals T ys.toList with
    | some l, some m => some (.func (.func f) l.toArray m.toArray, H)
    | _, _ => none
  | .makeMap t r => match aopt T r with
    | some none => amakeMap H
    | some (some (.int _ _)) => match E.und t with
      | some (.map _ _) => amakeMap H
      | _ => none
    | _ => none
  | .makeSlice t x y => match aeval T x, aeval T y with
    | some v, some u => amakeSlice E H t v u
    | _, _ => none
  | .slice t x lo hi mx => match aeval T x, aopt T lo, aopt T hi, aopt T mx with
    | some v, some l, some h, some m => pairH H (bif isScalar v then (bif optSc l && optSc h && optSc m then asc (pureRun P (Instr.sliceAt t v l h m)) else none) else aslice E t v l h m)
    | _, _, _, _ => none
  | .fieldAddr s x f => match aeval T x with
    | some v => pairH H (afieldAddr E s f v)
    | none => none
  | .field s x f => match aeval T x with
    | some v => pairH H (afield E s f v)
    | none => none
  | .indexAddr t x i => match aeval T x, aeval T i with
    | some v, some u => pairH H (aindexAddr E t v u)
    | _, _ => none
  | .index t x i => match aeval T x, aeval T i with
    | some v, some u => pairH H (aindex E t v u)
    | _, _ => none
  | .lookup t x i ok => match aeval T x, aeval T i with
    | some v, some u => pairH H (alookup E Q H t v u ok)
    | _, _ => none
  | .mapUpdate t m k x | .insert t m k x => match aeval T m, aeval T k, aeval T x with
    | some v, some u, some y => pairU (amapUpdate E Q H t v u y)
    | _, _, _ => none
  | .mapEntry t m k => match aeval T m, aeval T k with
    | some v, some u => amapEntry E Q H t v u
    | _, _ => none
  | .entryStore _ m s x => match aeval T m, aeval T s, aeval T x with
    | some v, some u, some y => pairU (aentryStore H v u y)
    | _, _, _ => none
  | .range t x => match aeval T x with
    | some v => arangeS E H t v
    | none => none
  | .next x true => match aeval T x with
    | some v => anextS H v
    | none => none
  | .extract x i => match aeval T x with
    | some v => pairH H (aextract i v)
    | none => none
  | .typeAssert x _ as ok => match aeval T x with
    | some v => pairH H (aassert E as ok v)
    | none => none
  | _ => none
theorem pairH_some {r : Option Value} {v : Value} {K : AH} (e : pairH H r = some (v, K)) : r = some v ∧ K = H := by
  unfold pairH at e
  split at e
  · cases e; exact ⟨rfl, rfl⟩
  · cases e
theorem pairU_some {r : Option AH} {v : Value} {K : AH} (e : pairU r = some (v, K)) : r = some K ∧ v = undef := by
  unfold pairU at e
  split at e
  · cases e; exact ⟨rfl, rfl⟩
  · cases e
theorem Got.unit {s : Sem Unit} {H' : AH} (h : ∃ w', s.run P w = .ok () w' ∧ Rel μ H' w0 w') : Got P (do s; pure .skip) μ w0 w undef H' := by
  obtain ⟨w', h1, h2⟩ := h
  exact ⟨μ, .skip, undef, w', by simp [h1], .inr ⟨rfl, rfl⟩, .refl μ, h2, cval_ok μ 3 undef rfl⟩
theorem Got.now (h : Rel μ H w0 w) {v v' : Value} (hv : VR μ v v') : Got P (pure (.value v')) μ w0 w v H := ⟨μ, _, v', w, rfl, .inl rfl, .refl μ, h, hv⟩
theorem PR.map {l : List (Nat × Value)} {ps : Array (Nat × Operand)} (h : PR μ l (ps.toList.map fun (i, x) => (i, a.eval x))) : PR μ l (ps.map fun (i, x) => (i, a.eval x)).toList := by
  rw [Array.toList_map]; exact h
theorem LR.map {l : List Value} {ps : Array Operand} (h : LR μ l (ps.toList.map a.eval)) : LR μ l (ps.map a.eval).toList := by
  rw [Array.toList_map]; exact h
theorem aop_ok (hE : E.Ok P) (hQ : Q.Ok P) (h : Rel μ H w0 w) (ht : TR μ T a.tmps) {o : Oper} {v : Value} {H' : AH} (e : aop P E Q T H o.op = some (v, H')) : Got P (execOp a.eval o) μ w0 w v H' := by
  have ev := fun {x : Operand} {v : Value} (e : aeval T x = some v) => aeval_ok ht e
  unfold execOp
  cases ho : o.op <;> rw [ho] at e <;> simp only [aop] at e <;> dsimp only
  case move x =>
    obtain ⟨h1, rfl⟩ := pairH_some e
    exact .now h (ev h1)
  case assign x =>
    obtain ⟨h1, rfl⟩ := pairH_some e
    exact .now h (ev h1)
  case pick c x y =>
    split at e
    · rename_i t hc
      obtain ⟨h1, rfl⟩ := pairH_some e
      have hb := ev hc
      generalize a.eval c = cv at hb
      cases hb
      cases t with
      | true => exact ⟨μ, .value (a.eval x), a.eval x, w, by simp [asBool], .inl rfl, .refl μ, h, ev h1⟩
      | false => exact ⟨μ, .value (a.eval y), a.eval y, w, by simp [asBool], .inl rfl, .refl μ, h, ev h1⟩
    · cases e
  case alloc t =>
    split at e
    · rename_i i hi
      split at e
      · rename_i z hz
        cases hb : z.cells.toList.all (cval 6) with
        | false => rw [hb] at e; cases e
        | true =>
          rw [hb, cond_true] at e
          have := anew_ok (P := P) h (c' := z.cells) (LR.refl_of hb) e
          apply GotV.val
          obtain ⟨ν, v', w', r1, r2⟩ := this
          refine ⟨ν, v', w', ?_, r2⟩
          rw [← r1]
          simp only [Instr.alloc, Sem.run_bind, run_zero hE hi hz, Result.andThen_ok, newVar]
      · cases e
    · cases e
  case box t x =>
    split at e
    · rename_i u hu
      have := anew_ok (P := P) h (c' := (a.eval x).cells) (ev hu).cells e
      exact GotV.val this
    · cases e
  case build t ps =>
    split at e
    · rename_i l hl
      obtain ⟨h1, rfl⟩ := pairH_some e
      exact (abuild_ok hE h (aparts_ok ht _ l hl).map h1).val
    · cases e
  case buildSlice t n ps =>
    split at e
    · rename_i l hl
      exact (abuildSlice_ok hE h (aparts_ok ht _ l hl).map e).val
    · cases e
  case insert t m k x =>
    split at e
    · rename_i v1 v2 v3 h1 h2 h3
      obtain ⟨h4, rfl⟩ := pairU_some e
      exact .unit (amapUpdate_ok hE hQ h (ev h1) (ev h2) (ev h3) h4)
    · cases e
  case load t x =>
    split at e
    · rename_i u hu
      obtain ⟨h1, rfl⟩ := pairH_some e
      exact (aload_ok hE h (ev hu) h1).val
    · cases e
  case store t x y =>
    split at e
    · rename_i v1 v2 h1 h2
      obtain ⟨h4, rfl⟩ := pairU_some e
      exact .unit (astore_ok hE h (ev h1) (ev h2) h4)
    · cases e
  case nilCheck x =>
    split at e
    · rename_i u hu
      obtain ⟨h1, rfl⟩ := pairH_some e
      have hv := ev hu
      generalize a.eval x = av at hv
      unfold anilCheck at h1
      split at h1
      · cases h1; cases hv with
        | ptr o hm => exact .now h (.ptr o hm)
      · cases h1; cases hv with
        | func _ h1 h2 h3 h4 => exact .now h (.func _ h1 h2 h3 h4)
      · cases h1; cases hv with
        | iface _ hv => exact .now h (.iface _ hv)
      · cases h1
    · cases e
  case binOp op t x y ty =>
    split at e
    · rename_i v1 v2 h1 h2
      obtain ⟨h4, rfl⟩ := pairH_some e
      exact (abin_ok hE hQ h (ev h1) (ev h2) h4).val
    · cases e
  case unOp op t x =>
    split at e
    · rename_i u hu
      obtain ⟨h1, rfl⟩ := pairH_some e
      exact (aun_ok h (ev hu) h1).val
    · cases e
  case convert s d x =>
    split at e
    · rename_i u hu
      exact (aconvP_ok hE h (ev hu) e).val
    · cases e
  case makeInterface t x =>
    split at e
    · rename_i u d hu hd
      have hgo : (∀ ms, d ≠ .interface ms) → v = .iface t u ∧ H' = H → Got P (do pure (.value (← Instr.makeInterface t (a.eval x)))) μ w0 w v H' := by
        rintro hn ⟨rfl, rfl⟩
        refine GotV.val (.pure h (v' := .iface t (a.eval x)) ?_ (.iface t (ev hu)))
        simp only [Instr.makeInterface, Sem.run_bind, run_und hE hd, Result.andThen_ok, Sem.run_pure]
      split at e
      · cases e
      · rename_i hn
        cases e
        exact hgo (fun ms hm => hn ms hm) ⟨rfl, rfl⟩
    · cases e
  case makeFunc fn xs ys =>
    cases fn with
    | func f =>
      simp only at e
      split at e
      · rename_i l m hl hm
        cases e
        have r1 := LR.map (aevals_ok ht _ l hl)
        have r2 := LR.map (aevals_ok ht _ m hm)
        exact GotV.val (.pure h (v' := .func (.func f) (xs.map a.eval) (ys.map a.eval)) rfl (.func f (AR.of_list r1).1 (AR.of_list r1).2 (AR.of_list r2).1 (AR.of_list r2).2))
      · cases e
    | _ => cases e
  case makeMap t r =>
    split at e
    · rename_i hr
      have := aopt_ok ht hr
      cases r with
      | none => exact (amakeMap_ok hE h (t := t) (.inl rfl) e).val
      | some x => exact this.elim
    · rename_i k n hr
      have hr2 := aopt_ok ht hr
      cases r with
      | none => exact hr2.elim
      | some x =>
        split at e
        · rename_i ka kb hu
          simp only [OR, Option.map_some] at hr2
          have hx : a.eval x = .int k n := by generalize a.eval x = av at hr2; cases hr2; rfl
          refine GotV.val (amakeMap_ok hE h (t := t) (.inr ⟨k, n, _, by simp [hx], hu, _, _, rfl⟩) e)
        · cases e
    · cases e
  case makeSlice t x y =>
    split at e
    · rename_i v1 v2 h1 h2
      exact (amakeSlice_ok hE h (ev h1) (ev h2) e).val
    · cases e
  case slice t x lo hi mx =>
    split at e
    · rename_i u l h' m hu hl hh hm
      obtain ⟨h1, rfl⟩ := pairH_some e
      cases hs : isScalar u with
      | true =>
        rw [hs, cond_true] at h1
        cases hb : (optSc l && optSc h' && optSc m) with
        | false => rw [hb] at h1; cases h1
        | true =>
          rw [hb, cond_true] at h1
          simp only [Bool.and_eq_true] at hb
          rw [(ev hu).scalar hs, OR.scalar (aopt_ok ht hl) hb.1.1, OR.scalar (aopt_ok ht hh) hb.1.2, OR.scalar (aopt_ok ht hm) hb.2]
          exact (asc_ok h h1).val
      | false =>
        rw [hs, cond_false] at h1
        exact (aslice_ok hE h (ev hu) (aopt_ok ht hl) (aopt_ok ht hh) (aopt_ok ht hm) h1).val
    · cases e
  case fieldAddr s x f =>
    split at e
    · rename_i u hu
      obtain ⟨h1, rfl⟩ := pairH_some e
      exact (afieldAddr_ok hE h (ev hu) h1).val
    · cases e
  case field s x f =>
    split at e
    · rename_i u hu
      obtain ⟨h1, rfl⟩ := pairH_some e
      exact (afield_ok hE h (ev hu) h1).val
    · cases e
  case indexAddr t x i =>
    split at e
    · rename_i v1 v2 h1 h2
      obtain ⟨h4, rfl⟩ := pairH_some e
      exact (aindexAddr_ok hE h (ev h1) (ev h2) h4).val
    · cases e
  case index t x i =>
    split at e
    · rename_i v1 v2 h1 h2
      obtain ⟨h4, rfl⟩ := pairH_some e
      exact (aindex_ok hE h (ev h1) (ev h2) h4).val
    · cases e
  case lookup t x i ok =>
    split at e
    · rename_i v1 v2 h1 h2
      obtain ⟨h4, rfl⟩ := pairH_some e
      exact (alookup_ok hE hQ h (ev h1) (ev h2) h4).val
    · cases e
  case mapUpdate t m k x =>
    split at e
    · rename_i v1 v2 v3 h1 h2 h3
      obtain ⟨h4, rfl⟩ := pairU_some e
      exact .unit (amapUpdate_ok hE hQ h (ev h1) (ev h2) (ev h3) h4)
    · cases e
  case mapEntry t m k =>
    split at e
    · rename_i v1 v2 h1 h2
      exact (amapEntry_ok hE hQ h (ev h1) (ev h2) e).val
    · cases e
  case entryStore t m s x =>
    split at e
    · rename_i v1 v2 v3 h1 h2 h3
      obtain ⟨h4, rfl⟩ := pairU_some e
      exact .unit (aentryStore_ok h (ev h1) (ev h2) (ev h3) h4)
    · cases e
  case range t x =>
    split at e
    · rename_i u hu
      exact (arangeS_ok hE h (ev hu) e).val
    · cases e
  case next x s =>
    cases s with
    | true =>
      simp only at e
      split at e
      · rename_i u hu
        exact (anextS_ok h (ev hu) e).val
      · cases e
    | false => cases e
  case typeAssert x xt as ok =>
    split at e
    · rename_i u hu
      obtain ⟨h1, rfl⟩ := pairH_some e
      exact (aassert_ok hE h (ev hu) h1).val
    · cases e
  case extract x i =>
    split at e
    · rename_i u hu
      obtain ⟨h1, rfl⟩ := pairH_some e
      exact (aextract_ok h (ev hu) h1).val
    · cases e
  all_goals cases e
end
end AM
end Go.Proofs.YtccnkkffeokgcaaGreatDoor
