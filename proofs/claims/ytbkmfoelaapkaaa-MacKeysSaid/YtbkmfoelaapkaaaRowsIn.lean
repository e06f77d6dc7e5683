/- What comes in: a slice of slices of bytes as a list of lists. -/
import Derived.Test.YtbkmfoelaapkaaaIn
namespace Go.Proofs.Ytbkmfoelaapkaaa
open Go Go.RowKit Sha

theorem list_of {α : Type} (len : Nat) (p : Nat → α → Prop) (h : ∀ r, r < len → ∃ x, p r x) : ∃ xs : List α, xs.length = len ∧ ∀ r x, xs[r]? = some x → p r x := by
  induction len with
  | zero => exact ⟨[], rfl, fun r x hr => by simp at hr⟩
  | succ n ih =>
    obtain ⟨xs, hl, hx⟩ := ih fun r hr => h r (by omega)
    obtain ⟨y, hy⟩ := h n (by omega)
    refine ⟨xs ++ [y], by simp [hl], fun r x hr => ?_⟩
    rcases Nat.lt_or_ge r n with h1 | h1
    · rw [List.getElem?_append_left (by omega)] at hr
      exact hx r x hr
    · rw [List.getElem?_append_right (by omega), hl] at hr
      have : r = n := by
        have := (List.getElem?_eq_some_iff.1 hr).1
        simp at this; omega
      subst this
      simp at hr
      subst hr
      exact hy
theorem rows_in {w : World} {a : Addr} {len cap : Nat} (A : Nat → Option Addr) (L C : Nat → Nat) (Z : Nat → List Int) (hl : len ≤ cap) (hm : cap ≤ maxLen) {base : Nat}
    (hrow : ∀ r, r < cap → w.cell? (a.add r) = some (.slice (A r) (L r) (C r)) ∧ L r ≤ C r ∧ C r ≤ maxLen ∧ (Z r).length = C r ∧ (∀ n ∈ Z r, (Lit.int .u8 n).wf = true) ∧ (A r = none → C r = 0) ∧
        ∀ a', A r = some a' → base ≤ a'.block ∧ ∀ c, c < C r → w.cell? (a'.add c) = some (.int .u8 ((Z r).getD c 0))) :
    ∃ xss : List (List UInt8), xss.length = len ∧ RdR w (some a) xss := by
  have each : ∀ r, r < len → ∃ bs : List UInt8, bs.length = L r ∧ RdB w (A r) bs := fun r hr => by
    obtain ⟨_, h2, h3, h4, h5, h6, h7⟩ := hrow r (by omega)
    cases hA : A r with
    | none =>
      have h0 := h6 hA
      exact ⟨[], by simp; omega, .inl rfl⟩
    | some a' =>
      obtain ⟨bs, hb1, hb2, _⟩ := bytes_in (w := w) (a := some a') (len := L r) (cap := C r) (zs := Z r) (.inr ⟨a', rfl, h2, h3, h4, fun i hi => (h7 a' hA).2 i (by omega), h5⟩)
      exact ⟨bs, hb1, hb2⟩
  obtain ⟨xss, hx1, hx2⟩ := list_of len _ each
  refine ⟨xss, hx1, (List.range len).map (fun r => .slice (A r) (L r) (C r)), by simp [hx1], ?_, fun j hj => ?_⟩
  · rcases Nat.eq_zero_or_pos len with h0 | h0
    · subst h0; exact .inl rfl
    · have hs := cell_spot (hrow 0 (by omega)).1
      obtain ⟨b, o, s⟩ := a
      have hs' : s = none := by simpa [Addr.add] using hs
      subst hs'
      refine .inr ⟨b, o, rfl, fun j hj => ?_⟩
      have hj' : j < len := by simpa using hj
      have h1 := (hrow j (by omega)).1
      have h2 : (⟨b, o, none⟩ : Addr).add j = ⟨b, o + j, none⟩ := by unfold Addr.add; split <;> simp_all
      rw [h2] at h1
      rw [h1]
      simp [List.getElem?_map, List.getElem?_range hj']
  · have hg : xss[j]? = some (xss.getD j []) := by rw [List.getD_eq_getElem?_getD, List.getElem?_eq_getElem hj]; rfl
    obtain ⟨h1, h2⟩ := hx2 j _ hg
    refine ⟨A j, C j, ?_, h2⟩
    rw [h1]
    simp [List.getElem?_map, List.getElem?_range (show j < len by omega)]
end Go.Proofs.Ytbkmfoelaapkaaa
