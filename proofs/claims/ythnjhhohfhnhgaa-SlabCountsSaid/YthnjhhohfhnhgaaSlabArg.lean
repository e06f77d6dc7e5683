/- What comes into the laws of chapters 15 and 16. -/
import Derived.Test.YthnjhhohfhnhgaaSlabX
import Derived.Test.YthnjhhohfhnhgaaPvArg
namespace Go.Proofs.Ythnjhhohfhnhgaa
open Go Go.RowKit

theorem flat_pb (b : List UInt8) : b.flatMap (fun x => [PV.int .u8 (x.toNat : Int)]) = pb b := by
  induction b with
  | nil => rfl
  | cons x b ih => rw [List.flatMap_cons, ih]; rfl
theorem in_bytes : InT Try.prog 30 1 (List UInt8) (fun l => [bsl l]) (fun l => l.length ≤ maxLen) :=
  (in_slice (P := Try.prog) (t := 30) in_byte (Nat.succ_pos 0)).map id (fun l _ => by rw [flat_pb]; rfl) (fun _ => rfl) (fun l h => h.1)
theorem in_scar : InT Try.prog 45 2 Scr scarPV (fun x => x.2.length ≤ maxLen) :=
  (in_struct (P := Try.prog) (t := 45) (by kernel_rfl) (in_fcons 0 in_int (in_fcons 1 in_bytes (in_fnil (by kernel_rfl))))).map (fun p => (p.1, p.2.1)) (fun _ _ => rfl) (fun _ => rfl) (fun _ h => h.2.1)
theorem in_scars : InT Try.prog 33 1 (List Scr) (fun l => [.ro false l.length (scarsPV l)]) (fun l => l.length ≤ maxLen ∧ ∀ x ∈ l, x.2.length ≤ maxLen) :=
  in_slice (P := Try.prog) (t := 33) in_scar (by decide)
theorem in_deed : InT Try.prog 35 5 Deed deedPV (fun d => d.sc.length ≤ maxLen ∧ ∀ x ∈ d.sc, x.2.length ≤ maxLen) :=
  (in_struct (P := Try.prog) (t := 35) (by kernel_rfl) (in_fcons 0 in_int (in_fcons 1 in_int (in_fcons 2 in_int (in_fcons 3 in_byte (in_fcons 4 in_scars (in_fnil (by kernel_rfl)))))))).map
    (fun p => ⟨p.1, p.2.1, p.2.2.1, p.2.2.2.1, p.2.2.2.2.1⟩) (fun _ _ => rfl) (fun _ => rfl) (fun _ h => h.2.2.2.2.1)
theorem in_deeds : InT Try.prog 22 1 (List Deed) (fun l => [.ro false l.length (deedsPV l)]) (fun l => l.length ≤ maxLen ∧ ∀ d ∈ l, d.sc.length ≤ maxLen ∧ ∀ x ∈ d.sc, x.2.length ≤ maxLen) :=
  in_slice (P := Try.prog) (t := 22) in_deed (by decide)
end Go.Proofs.Ythnjhhohfhnhgaa
