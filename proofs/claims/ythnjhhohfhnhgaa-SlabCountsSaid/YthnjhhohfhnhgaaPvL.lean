/- The logic of pure values: lists of records. -/
import Derived.Test.YthnjhhohfhnhgaaPvRange
namespace Go.Proofs.Ythnjhhohfhnhgaa
open Go Go.RowKit

theorem fm_snap {α : Type} {H : Nat → Option Blk'} {vis : List Nat} (f : α → List PV) (h : ∀ a, ClL (f a)) : ∀ l : List α, SnapL H vis (l.flatMap f) (l.flatMap f)
  | [] => .nil
  | a :: l => by
    rw [List.flatMap_cons]
    exact SnapL.append ((h a).out H vis) (fm_snap f h l)
instance fm_cl {α : Type} (f : α → List PV) (l : List α) [h : ∀ a, ClL (f a)] : ClL (l.flatMap f) := ⟨fun _ _ => fm_snap f h l⟩
theorem length_fm {α : Type} {f : α → List PV} {k : Nat} (h : ∀ a, (f a).length = k) (l : List α) : (l.flatMap f).length = l.length * k := by
  induction l with
  | nil => simp
  | cons a l ih => rw [List.flatMap_cons, List.length_append, ih, h, List.length_cons, Nat.add_mul]; omega
theorem drop_fm {α : Type} {f : α → List PV} {k : Nat} (h : ∀ a, (f a).length = k) (l : List α) (i : Nat) : (l.flatMap f).drop (i * k) = (l.drop i).flatMap f := by
  induction l generalizing i with
  | nil => simp
  | cons a l ih =>
    cases i with
    | zero => simp
    | succ i => rw [List.flatMap_cons, show (i + 1) * k = (f a).length + i * k by rw [h, Nat.add_mul]; omega, List.drop_append, List.drop_succ_cons, ← ih]; simp
theorem at_fm {α : Type} {f : α → List PV} {k : Nat} (h : ∀ a, (f a).length = k) (l : List α) (i : Nat) (hi : i < l.length) : (l.flatMap f).drop (i * k) = f l[i] ++ (l.drop (i + 1)).flatMap f := by
  rw [drop_fm h, List.drop_eq_getElem_cons hi, List.flatMap_cons]
theorem take_fm {α : Type} {f : α → List PV} {k : Nat} (h : ∀ a, (f a).length = k) (l : List α) (i : Nat) (hi : i < l.length) : ((l.flatMap f).drop (i * k)).take k = f l[i] := by
  rw [at_fm h l i hi, List.take_append_of_le_length (by rw [h]; omega), List.take_of_length_le (by rw [h]; omega)]
theorem le_fm {α : Type} {f : α → List PV} {k : Nat} (h : ∀ a, (f a).length = k) (l : List α) (i : Nat) (hi : i < l.length) : k ≤ ((l.flatMap f).drop (i * k)).length := by
  rw [at_fm h l i hi, List.length_append, h]; omega
/-- Only some slots and blocks are told from here on. -/
theorem lwp_keep {R0 : Option Nat} {P : Program} {N k0 : Nat} {Q : Exit → LSt → Prop} {TL TL' : List (Nat × PV)} {HL HL' : List (Nat × Blk')} {n : Nat} {cd : Code} (hT : ∀ p ∈ TL', Lk TL p.1 p.2) (hH : ∀ p ∈ HL', hget HL p.1 = some p.2)
    (h : lwp R0 P N k0 cd Q (St' TL' HL' n)) : lwp R0 P N k0 cd Q (St' TL HL n) := by
  refine lwp_less (t := St' TL' HL' n) ⟨fun i c v hv => ?_, fun i b hb => ?_, Nat.le_refl _⟩ h
  · show Rz c (tget TL' i) v
    rcases tget_or TL' i with h1 | ⟨p, hp, rfl, h2⟩
    · rw [h1]; simp [Rz]
    · rw [h2, ← show tget TL p.1 = p.2 from hT p hp]; exact hv
  · obtain ⟨p, hp, rfl, rfl⟩ := hget_or HL' i b hb
    exact hH p hp
end Go.Proofs.Ythnjhhohfhnhgaa
