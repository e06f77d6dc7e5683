/- Words of 32 bits and bytes: what the model's whole numbers become when their values are those of UInt32 and UInt8. Plain arithmetic; no program in sight. -/
import Derived.Laws.BitsAllLaws
import Derived.Calls
namespace Go.Proofs.Ytbkmfoelaapkaaa
open Go

theorem u32_add (a b : UInt32) : IntKind.u32.wrap ((a.toNat : Int) + (b.toNat : Int)) = ((a + b).toNat : Int) := by
  rw [IntKind.wrap_u32', UInt32.toNat_add]; omega
theorem u32_xor_ (a b : UInt32) : bits .xor .u32 (a.toNat : Int) (b.toNat : Int) = ((a ^^^ b).toNat : Int) := by
  rw [u32_xor_nat _ _ a.toNat_lt b.toNat_lt, UInt32.toNat_xor]
theorem u32_or_ (a b : UInt32) : bits .or .u32 (a.toNat : Int) (b.toNat : Int) = ((a ||| b).toNat : Int) := by
  rw [u32_or_nat _ _ a.toNat_lt b.toNat_lt, UInt32.toNat_or]
theorem u32_and_ (a b : UInt32) : bits .and .u32 (a.toNat : Int) (b.toNat : Int) = ((a &&& b).toNat : Int) := by
  rw [u32_and_nat _ _ a.toNat_lt b.toNat_lt, UInt32.toNat_and]
theorem u32_not_ (a : UInt32) : bits .xor .u32 4294967295 (a.toNat : Int) = ((~~~a).toNat : Int) := by
  have : (4294967295 : Int) = ((4294967295 : UInt32).toNat : Int) := rfl
  rw [this, u32_xor_nat _ _ (by decide) a.toNat_lt]
  congr 1
theorem u32_not_max (a : UInt32) : bits .xor .u32 IntKind.u32.max (a.toNat : Int) = ((~~~a).toNat : Int) := u32_not_ a
theorem u32_shl_ (a : UInt32) (s : Nat) (h : s < 32) : IntKind.u32.wrap ((a.toNat : Int) * 2 ^ s) = ((a <<< UInt32.ofNat s).toNat : Int) := by
  rw [IntKind.wrap_u32', UInt32.toNat_shiftLeft]
  rw [UInt32.toNat_ofNat_of_lt' (Nat.lt_trans h (by decide)), Nat.mod_eq_of_lt h, Nat.shiftLeft_eq]
  show _ = ((a.toNat * 2 ^ s % 4294967296 : Nat) : Int)
  rw [Int.natCast_emod, Int.natCast_mul, Int.natCast_pow]
  rfl
theorem u32_shr_ (a : UInt32) (s : Nat) (h : s < 32) : (a.toNat : Int) / 2 ^ s = ((a >>> UInt32.ofNat s).toNat : Int) := by
  rw [UInt32.toNat_shiftRight]
  rw [UInt32.toNat_ofNat_of_lt' (Nat.lt_trans h (by decide)), Nat.mod_eq_of_lt h, Nat.shiftRight_eq_div_pow]
  rw [Int.natCast_ediv, Int.natCast_pow]
  rfl
theorem u32_of_u8 (b : UInt8) : IntKind.u32.wrap (b.toNat : Int) = (b.toUInt32.toNat : Int) := by
  have := b.toNat_lt
  rw [IntKind.wrap_u32', UInt8.toNat_toUInt32]; omega
theorem u8_of_u32 (a : UInt32) : IntKind.u8.wrap (a.toNat : Int) = (a.toUInt8.toNat : Int) := by
  rw [IntKind.wrap_u8', UInt32.toNat_toUInt8]; rfl
theorem u8_xor_ (a b : UInt8) : bits .xor .u8 (a.toNat : Int) (b.toNat : Int) = ((a ^^^ b).toNat : Int) := by
  rw [u8_xor_nat _ _ a.toNat_lt b.toNat_lt, UInt8.toNat_xor]
theorem u8_or_ (a b : UInt8) : bits .or .u8 (a.toNat : Int) (b.toNat : Int) = ((a ||| b).toNat : Int) := by
  rw [u8_or_nat _ _ a.toNat_lt b.toNat_lt, UInt8.toNat_or]

/-! The same in the walk's spelling ('wrap' laid open). -/
theorem w32_add (a b : UInt32) : ((a.toNat : Int) + (b.toNat : Int)) % 4294967296 = ((a + b).toNat : Int) := by rw [← u32_add, IntKind.wrap_u32']
theorem w32_shl (a : UInt32) (s : Nat) (h : s < 32) : (a.toNat : Int) * 2 ^ s % 4294967296 = ((a <<< UInt32.ofNat s).toNat : Int) := by rw [← u32_shl_ a s h, IntKind.wrap_u32']
theorem w8_of_u32 (a : UInt32) : (a.toNat : Int) % 256 = (a.toUInt8.toNat : Int) := by rw [← u8_of_u32, IntKind.wrap_u8']
theorem w32_of_u8 (b : UInt8) : (b.toNat : Int) % 4294967296 = (b.toUInt32.toNat : Int) := by rw [← u32_of_u8, IntKind.wrap_u32']
theorem w32_shl24 (a : UInt32) : (a.toNat : Int) * (16777216 : Int) % (4294967296 : Int) = ((a <<< 24).toNat : Int) := w32_shl a 24 (by decide)
theorem w32_shl16 (a : UInt32) : (a.toNat : Int) * (65536 : Int) % (4294967296 : Int) = ((a <<< 16).toNat : Int) := w32_shl a 16 (by decide)
theorem w32_shl8 (a : UInt32) : (a.toNat : Int) * (256 : Int) % (4294967296 : Int) = ((a <<< 8).toNat : Int) := w32_shl a 8 (by decide)
theorem w32_shr3 (a : UInt32) : (a.toNat : Int) / (8 : Int) = ((a >>> 3).toNat : Int) := u32_shr_ a 3 (by decide)
theorem w32_shr10 (a : UInt32) : (a.toNat : Int) / (1024 : Int) = ((a >>> 10).toNat : Int) := u32_shr_ a 10 (by decide)
theorem w32_add3 (a b c : UInt32) : ((a.toNat : Int) + (b.toNat : Int) + (c.toNat : Int)) % (4294967296 : Int) = ((a + b + c).toNat : Int) := by rw [← w32_add, ← w32_add]; omega
theorem w32_add4 (a b c d : UInt32) : ((a.toNat : Int) + (b.toNat : Int) + (c.toNat : Int) + (d.toNat : Int)) % (4294967296 : Int) = ((a + b + c + d).toNat : Int) := by rw [← w32_add, ← w32_add3]; omega
theorem w32_add5 (a b c d e : UInt32) : ((a.toNat : Int) + (b.toNat : Int) + (c.toNat : Int) + (d.toNat : Int) + (e.toNat : Int)) % (4294967296 : Int) = ((a + b + c + d + e).toNat : Int) := by rw [← w32_add, ← w32_add4]; omega
theorem w8_shr24 (a : UInt32) : (a.toNat : Int) / (16777216 : Int) % (256 : Int) = ((a >>> 24).toUInt8.toNat : Int) := (congrArg (fun x : Int => x % 256) (u32_shr_ a 24 (by decide))).trans (w8_of_u32 (a >>> 24))
theorem w8_shr16 (a : UInt32) : (a.toNat : Int) / (65536 : Int) % (256 : Int) = ((a >>> 16).toUInt8.toNat : Int) := (congrArg (fun x : Int => x % 256) (u32_shr_ a 16 (by decide))).trans (w8_of_u32 (a >>> 16))
theorem w8_shr8 (a : UInt32) : (a.toNat : Int) / (256 : Int) % (256 : Int) = ((a >>> 8).toUInt8.toNat : Int) := (congrArg (fun x : Int => x % 256) (u32_shr_ a 8 (by decide))).trans (w8_of_u32 (a >>> 8))
theorem ret_int {k : IntKind} {a b : Int} (h : a = b) : Ending.returned (.int k a) = .returned (.int k b) := by rw [h]
theorem val_int {k : IntKind} {a b : Int} (h : a = b) : Value.int k a = .int k b := by rw [h]

end Go.Proofs.Ytbkmfoelaapkaaa
