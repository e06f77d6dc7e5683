/- The rotations of words: bits.RotateLeft32 and the reference's turn. -/
import Derived.Test.YtbkmfoelaapkaaaProg
import Derived.Test.YtbkmfoelaapkaaaSha
import Derived.Test.YtbkmfoelaapkaaaLaws
import Derived.WalkKit
import Derived.WalkSpells
import Derived.WalkLawsBesides
namespace Go.Proofs.Ytbkmfoelaapkaaa
open Go Go.RowKit



set_option maxHeartbeats 400000 in
theorem rot_any (x : UInt32) (k : Int) (s : Nat) (h1 : 1 ≤ s) (h2 : s ≤ 31) (hk : bits BinOp.and IntKind.u64 (IntKind.u64.wrap k) 31 = (s : Int)) (w : World) :
    Calls Try.prog 42 #[.int .u32 (x.toNat : Int), .int .i64 k] w fun e w' => e = .returned (.int .u32 ((rl x s).toNat : Int)) ∧ w = w' := by
  go_enter Try.func42, Try.ntmps42
  go_wp2
  go_ret
  refine ⟨ret_int ?_, rfl⟩
  rw [w32_shl x s (by omega), u32_shr_ x (32 - s) (by omega), u32_or_]
  rfl

/-- A turn by k places, to the left if k is above 0. -/
def rotk (x : UInt32) (k : Int) : UInt32 := rl x (k % 32).toNat
theorem and31 (k : Int) : bits BinOp.and IntKind.u64 (IntKind.u64.wrap k) 31 = ((k % 32).toNat : Int) := by
  rw [IntKind.wrap_u64, u64_and _ _ (by omega) (by omega) (by decide) (by decide), show (31 : Int).toNat = 31 from rfl, nat_mask5]
  omega
theorem rotk_any (x : UInt32) (k : Int) (hk : 1 ≤ (k % 32).toNat) (w : World) :
    Calls Try.prog 42 #[.int .u32 (x.toNat : Int), .int .i64 k] w fun e w' => e = .returned (.int .u32 ((rotk x k).toNat : Int)) ∧ w = w' :=
  rot_any x k _ hk (by omega) (and31 k) w

open Sha in
theorem s0_walk (x : UInt32) : rotk x (-7) ^^^ rotk x (-18) ^^^ x >>> 3 = s0 x := rfl
open Sha in
theorem s1_walk (x : UInt32) : rotk x (-17) ^^^ rotk x (-19) ^^^ x >>> 10 = s1 x := rfl
open Sha in
theorem S0_walk (x : UInt32) : rotk x (-2) ^^^ rotk x (-13) ^^^ rotk x (-22) = S0 x := rfl
open Sha in
theorem S1_walk (x : UInt32) : rotk x (-6) ^^^ rotk x (-11) ^^^ rotk x (-25) = S1 x := rfl

/-- The sixty-four constants, as a value. -/
def KV : Array Value := #[
  .int .u32 0x428a2f98, .int .u32 0x71374491, .int .u32 0xb5c0fbcf, .int .u32 0xe9b5dba5, .int .u32 0x3956c25b, .int .u32 0x59f111f1, .int .u32 0x923f82a4, .int .u32 0xab1c5ed5,
  .int .u32 0xd807aa98, .int .u32 0x12835b01, .int .u32 0x243185be, .int .u32 0x550c7dc3, .int .u32 0x72be5d74, .int .u32 0x80deb1fe, .int .u32 0x9bdc06a7, .int .u32 0xc19bf174,
  .int .u32 0xe49b69c1, .int .u32 0xefbe4786, .int .u32 0x0fc19dc6, .int .u32 0x240ca1cc, .int .u32 0x2de92c6f, .int .u32 0x4a7484aa, .int .u32 0x5cb0a9dc, .int .u32 0x76f988da,
  .int .u32 0x983e5152, .int .u32 0xa831c66d, .int .u32 0xb00327c8, .int .u32 0xbf597fc7, .int .u32 0xc6e00bf3, .int .u32 0xd5a79147, .int .u32 0x06ca6351, .int .u32 0x14292967,
  .int .u32 0x27b70a85, .int .u32 0x2e1b2138, .int .u32 0x4d2c6dfc, .int .u32 0x53380d13, .int .u32 0x650a7354, .int .u32 0x766a0abb, .int .u32 0x81c2c92e, .int .u32 0x92722c85,
  .int .u32 0xa2bfe8a1, .int .u32 0xa81a664b, .int .u32 0xc24b8b70, .int .u32 0xc76c51a3, .int .u32 0xd192e819, .int .u32 0xd6990624, .int .u32 0xf40e3585, .int .u32 0x106aa070,
  .int .u32 0x19a4c116, .int .u32 0x1e376c08, .int .u32 0x2748774c, .int .u32 0x34b0bcb5, .int .u32 0x391c0cb3, .int .u32 0x4ed8aa4a, .int .u32 0x5b9cca4f, .int .u32 0x682e6ff3,
  .int .u32 0x748f82ee, .int .u32 0x78a5636f, .int .u32 0x84c87814, .int .u32 0x8cc70208, .int .u32 0x90befffa, .int .u32 0xa4506ceb, .int .u32 0xbef9a3f7, .int .u32 0xc67178f2]
theorem KV_eq : KV.toList = wv Sha.K := by simp [KV, wv, Sha.K]

theorem KV_at (k : Nat) (h : k < 64) (w : World) : (Instr.index 36 (.agg KV) (.int .i64 (k : Int))).run Try.prog w = .ok (.int .u32 ((Sha.K.getD k 0).toNat : Int)) w := by
  refine run_index_one 36 35 64 KV .i64 k _ _ Try.underlying36 Try.underlying35 rfl (by kernel_rfl) (by omega) (by omega) ?_ w
  rw [← Array.getElem?_toList, KV_eq, show ((k : Int)).toNat = k by omega]
  exact wv_get _ _ (by simp [Sha.K]; omega)
theorem info36 : (Try.prog.info? 36).map (·.size) = some 64 := by kernel_rfl
theorem sizeKV : KV.size = 64 := by rfl
theorem allKV : KV.all (·.oneCell') = true := by kernel_rfl
set_option maxRecDepth 100000 in
set_option maxHeartbeats 1000000 in
theorem consts_any (w : World) :
    Calls Try.prog 43 #[] w fun e w' => e = .returned (.agg KV) ∧ Kp0 w w' := by
  go_enter Try.func43, Try.ntmps43
  go_wp2_with (first | (refine wpl_build rfl 36 _ rfl KV (by kernel_rfl) ?_) | (refine wpl_store_row rfl 36 (.tmp 0) (.tmp 1) rfl w.heap.size KV rfl rfl 36 _ (heap_alloc_new w _) 64 info36 ?_ sizeKV allKV ?_; (case refine_1 => rfl); intro w1 hw1 hk1))
  have hs : (Try.prog.info? 36).map (·.size) = some KV.size := by rw [sizeKV]; exact info36
  exact bodyPost_ret (v := .agg KV) (results_cell_row Try.results43 _ _ w.heap.size 36 KV (0, 0) _ rfl hw1 Try.underlying36 rfl hs) rfl ⟨rfl, ((Kp.refl _ w).alloc _).trans hk1 (fun i hi e => absurd e (by omega))⟩

/-- 'turn(x, n)': the same turn to the right. -/
theorem turn_any (x : UInt32) (n : Nat) (h1 : 1 ≤ n) (h2 : n ≤ 31) (w : World) :
    Calls Try.prog 41 #[.int .u32 (x.toNat : Int), .int .u64 (n : Int)] w fun e w' => e = .returned (.int .u32 ((rl x (32 - n)).toNat : Int)) ∧ w = w' := by
  go_enter Try.func41, Try.ntmps41
  go_wp2
  go_ret
  refine ⟨ret_int ?_, rfl⟩
  rw [w32_shl x (32 - n) (by omega), u32_shr_ x n (by omega), u32_or_, UInt32.or_comm, rl, show 32 - (32 - n) = n by omega]
end Go.Proofs.Ytbkmfoelaapkaaa
