/- The plan's rule where the head makes memory: nothing that stands is turned. -/
import Derived.Test.YtbkmfoelaapkaaaRegion
import Derived.Test.YtbkmfoelaapkaaaMem
namespace Go.Proofs.Ytbkmfoelaapkaaa
open Go Go.RowKit

open Classical in
/-- Some later world, in which all that stands in w stands as it did. -/
noncomputable def later (w u : World) : World := if Kp0 w u then u else w
theorem later_kp (w u : World) : Kp0 w (later w u) := by
  unfold later
  split
  · assumption
  · exact Kp.refl _ w
theorem later_of {w u : World} (h : Kp0 w u) : later w u = u := by unfold later; rw [if_pos h]
/-- The class of all later worlds, in a form that the walk's simp takes apart. -/
def Later (w v : World) : Prop := ∃ u, v = later w u
theorem Later.of {w v : World} (h : Kp0 w v) : Later w v := ⟨v, (later_of h).symm⟩
theorem Later.kp {w v : World} (h : Later w v) : Kp0 w v := by
  obtain ⟨u, rfl⟩ := h
  exact later_kp w u
theorem Blk.later_cell {w : World} {g : Nat} {t : TypeId} {cs : List Value} (h : Blk w g t cs) {i : Nat} {v : Value} (hv : cs[i]? = some v) (u : World) : (later w u).cell? ⟨g, i, none⟩ = some v := (h.kept0 (later_kp w u)).cell' hv
theorem Rd.later_cell {w : World} {b o : Nat} {xs : List Value} (h : Rd w (some ⟨b, o, none⟩) xs) {i : Nat} {v : Value} (hv : xs[i]? = some v) (u : World) : (later w u).cell? ⟨b, o + i, none⟩ = some v := by
  obtain ⟨b', o', e, hc⟩ := (Rd.kept0 h (later_kp w u)).at_ hv
  cases e
  exact hc

theorem wp_region_kp {P : Program} {id : Nat} {Q : Exit → Act → World → Prop} {a : Act} {w : World} {l : List Oper} (n : Nat) (p : Plan)
    (hm : P.follows .mixedOrders = true) (hB : planB .any l.toArray n p = true)
    (h : p.wp P l.toArray (fun u v => ∃ x, v = later u x) (fun a' w' => wpList P l.toArray Q (l.drop n) a' w') a w.drew) : (Code.region id l.toArray true).wp P Q a w :=
  wp_region_plan n p (fun u v => ∃ x, v = later u x) hm hB (fun w => Later.of (Kp.refl _ w)) (fun _ _ _ h k => Later.of ((Later.kp h).then0 (Later.kp k))) h

end Go.Proofs.Ytbkmfoelaapkaaa
