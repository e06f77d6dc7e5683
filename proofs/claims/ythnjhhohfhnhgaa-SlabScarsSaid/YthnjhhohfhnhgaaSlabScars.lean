/- SlabScars with what comes in. -/
import Derived.Test.YthnjhhohfhnhgaaSlabS
namespace Go.Proofs.Ythnjhhohfhnhgaa
open Go Go.RowKit
theorem scars_in (at_ other : Int) (x y : UInt8) (scarred : Bool) (b : List UInt8) (h : b.length ≤ maxLen) :
    Ctr Try.prog 5 [.int .i64 at_, .int .i64 other, .int .u8 (x.toNat : Int), .int .u8 (y.toNat : Int), .bool scarred, bsl b] (.bool true) := by
  have hm : maxLen ≤ 9223372036854775807 := by decide
  exact scars_ctr at_ other x y scarred b (Nat.le_trans h hm)
end Go.Proofs.Ythnjhhohfhnhgaa
