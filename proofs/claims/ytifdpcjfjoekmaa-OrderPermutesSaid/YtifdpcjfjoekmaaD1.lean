/-
  Rows that differ in a column, none of them blank there, stand the other way round, if they go down by it. No program in sight.
-/
import Derived.Test.YtifdpcjfjoekmaaB8
namespace Go.Proofs.Ytifdpcjfjoekmaa

theorem D_reverse {d : List Nat} {n i : Nat} (h : d.length = n) (hi : i < n) : D d.reverse i = D d (n - 1 - i) := by
  rw [D_at (by simpa [h] using hi), D_at (by omega), List.getElem_reverse]
  congr 1
  omega
theorem down_rev {rs : List RowD} {n : Nat} {c : Int} {up dn : List Nat} (hU : Sorted (cmpAt rs [⟨c, false⟩]) n up) (hD : Sorted (cmpAt rs [⟨c, true⟩]) n dn)
    (hb : ∀ i, i < n → (atV (rowAt rs i) c).kind ≠ 0) (hne : ∀ i j, j < i → i < n → valOrd (atV (rowAt rs i) c) (atV (rowAt rs j) c) ≠ 0) (i : Nat) (hi : i < n) : D up i = D dn (n - 1 - i) := by
  have anti : ∀ x y : Val, valOrd y x = -valOrd x y := fun x y => by
    have := (pre_key false).anti x y trivial trivial
    simpa [keyC] using this
  have hne' : ∀ x y, x < n → y < n → x ≠ y → valOrd (atV (rowAt rs x) c) (atV (rowAt rs y) c) ≠ 0 := fun x y hx hy hxy => by
    rcases Nat.lt_or_ge y x with h | h
    · exact hne x y h hx
    · have := hne y x (by omega) hy
      rw [anti] at this
      omega
  have cu : ∀ x y, cmpAt rs [⟨c, false⟩] x y = valOrd (atV (rowAt rs x) c) (atV (rowAt rs y) c) := fun x y => by
    unfold cmpAt cmpK cmp1 cmpK
    simp
    intro h; exact h.symm
  have cd : ∀ x y, x < n → y < n → cmpAt rs [⟨c, true⟩] x y = -valOrd (atV (rowAt rs x) c) (atV (rowAt rs y) c) := fun x y hx hy => by
    unfold cmpAt cmpK cmp1 cmpK
    simp [hb x hx, hb y hy]
    intro h; omega
  have hR : Sorted (cmpAt rs [⟨c, false⟩]) n dn.reverse := by
    refine ⟨(List.reverse_perm dn).trans hD.perm, fun p q _ hpq hq => ?_⟩
    rw [D_reverse hD.length (by omega), D_reverse hD.length hq]
    have h1 := hD.srt (n - 1 - q) (n - 1 - p) (Nat.zero_le _) (by omega) (by omega)
    have la := hD.lt (show n - 1 - q < n by omega)
    have lb := hD.lt (show n - 1 - p < n by omega)
    have hab : D dn (n - 1 - q) ≠ D dn (n - 1 - p) := by
      rw [D_at (by rw [hD.length]; omega), D_at (by rw [hD.length]; omega)]
      intro e
      have nd : dn.Nodup := hD.perm.nodup_iff.2 List.nodup_range
      have := (List.getElem_inj nd).1 e
      omega
    have h0 := hne' _ _ la lb hab
    have h2 := anti (atV (rowAt rs (D dn (n - 1 - q))) c) (atV (rowAt rs (D dn (n - 1 - p))) c)
    unfold T at h1 ⊢
    rw [cd _ _ la lb, cd _ _ lb la] at h1
    rw [cu, cu]
    refine .inl ?_
    rcases h1 with h1 | ⟨h1, _⟩ <;> omega
  have := Sorted.unique (ord_of (pre_cmpK [⟨c, false⟩]) (fun i => rowAt rs i) n) hU hR
  rw [this, D_reverse hD.length hi]
end Go.Proofs.Ytifdpcjfjoekmaa
