/- SlabLasts with what comes in. -/
import Derived.Test.YthnjhhohfhnhgaaSlabM
import Derived.Test.YthnjhhohfhnhgaaSlabArg
namespace Go.Proofs.Ythnjhhohfhnhgaa
open Go Go.RowKit
theorem lasts_in (at_ : Int) (x : UInt8) (l : List Deed) (h : l.length ≤ maxLen ∧ ∀ d ∈ l, d.sc.length ≤ maxLen ∧ ∀ x ∈ d.sc, x.2.length ≤ maxLen) :
    Ctr Try.prog 3 [.int .i64 at_, .int .u8 (x.toNat : Int), .ro false l.length (deedsPV l)] (.bool true) := by
  have hm : maxLen ≤ 9223372036854775807 := by decide
  exact lasts_ctr at_ x l (Nat.le_trans h.1 hm) (fun d hd => Nat.le_trans (h.2 d hd).1 hm) (fun d hd y hy => Nat.le_trans ((h.2 d hd).2 y hy) hm)
end Go.Proofs.Ythnjhhohfhnhgaa
