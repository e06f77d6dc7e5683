/- The logic of pure values: what comes into a statement, told by trees. -/
import Derived.Test.YtbkmfoelaapkaaaPvB
import Derived.Test.YtbkmfoelaapkaaaIn
namespace Go.Proofs.Ytbkmfoelaapkaaa
open Go Go.RowKit

/-- Nothing is forbidden. -/
abbrev V0 : Nat → Nat → Prop := fun _ _ => False
theorem ctr_row {P : Program} {g : FuncId} {xs : List PV} {vs : Array Value} {w : World} (h : Ctr P g xs (.bool true)) (hx : RzL (cl w V0) xs vs.toList) : Calls P g vs w fun e w' => e = .returned (.bool true) ∧ Below w.heap.size w w' := by
  refine (h w V0 vs (fun _ _ h => h.elim) hx).mono ?_
  rintro e w' ⟨u, rfl, hk, hu⟩
  simp only [Rz] at hu
  subst hu
  exact ⟨rfl, hk.below⟩
theorem bytes_pv {w : World} {a : Option Addr} {len cap : Nat} {zs : List Int}
    (h : (a = none ∧ len = 0 ∧ cap = 0 ∧ zs = []) ∨ ∃ x, a = some x ∧ len ≤ cap ∧ cap ≤ maxLen ∧ zs.length = cap ∧ (∀ i, i < zs.length → w.cell? (x.add i) = some (.int .u8 (zs.getD i 0))) ∧ ∀ n ∈ zs, (Lit.int .u8 n).wf = true) :
    ∃ bs : List UInt8, bs.length ≤ maxLen ∧ Rz (cl w V0) (bsl bs) (.slice a len cap) := by
  obtain ⟨bs, h1, h2, h3⟩ := bytes_in h
  refine ⟨bs, by omega, ?_⟩
  subst h1
  refine ro_out h2 rfl ?_ ?_ (fun _ _ _ _ _ h => h)
  · rcases h with ⟨_, h4, h5, _⟩ | ⟨_, _, h4, _⟩ <;> omega
  · intro e
    rcases h with ⟨_, _, h4, _⟩ | ⟨x, h4, _⟩
    · exact h4
    · rw [e] at h4; cases h4
theorem rows_pv {w : World} {A : Option Addr} {n cap : Nat} {xss : List (List UInt8)} (h : RdR w A xss) (hn : xss.length = n) (hc : n ≤ cap) (hA : A = none → cap = 0) (hB : ∀ j B len c, j < n → (∃ b o, A = some ⟨b, o, none⟩ ∧ w.cell? ⟨b, o + j, none⟩ = some (.slice B len c)) → len ≤ c ∧ (B = none → c = 0)) : Rz (cl w V0) (.ro false n (xss.map bsl)) (.slice A n cap) := by
  refine ⟨A, cap, rfl, hc, by simp, hA, ?_⟩
  obtain ⟨vs, h1, h2, h3⟩ := h
  rcases h2 with h2 | ⟨b, o, rfl, h2⟩
  · exact .inl (by rw [h2] at h1; simpa using h1.symm)
  · refine .inr ⟨b, o, rfl, ?_⟩
    rw [RzAt_iff]
    intro i x hx
    rw [List.getElem?_map] at hx
    obtain ⟨y, h4, rfl⟩ := Option.map_eq_some_iff.1 hx
    obtain ⟨hi, hy⟩ := List.getElem?_eq_some_iff.1 h4
    obtain ⟨B, c, e, hR⟩ := h3 i hi
    have hyd : xss.getD i [] = y := by rw [List.getD_eq_getElem?_getD, h4]; rfl
    rw [hyd] at e hR
    have hcell := (h2 i (by omega)).trans e
    obtain ⟨h5, h6⟩ := hB i B _ c (by omega) ⟨b, o, rfl, hcell⟩
    refine ⟨_, hcell, ?_, ro_out hR rfl h5 h6 (fun _ _ _ _ _ h => h)⟩
    rintro (h | ⟨_, _, h, _⟩)
    · exact h
    · cases h
end Go.Proofs.Ytbkmfoelaapkaaa
