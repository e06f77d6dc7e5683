/- The laws of chapter 4 that need no document's answer: their parts. -/
import Derived.Test.YtbkmfoelaapkaaaMac
import Derived.Lib.SlBytesConst
import Derived.Lib.SmallJoins
namespace Go.Proofs.Ytbkmfoelaapkaaa
open Go Go.RowKit Sha

theorem sum_two (m : List UInt8) (h : (m ++ tail m.length).length = 128) : sum m = out (comp (comp H0 ((m ++ tail m.length).take 64)) ((m ++ tail m.length).drop 64)) := by
  unfold sum
  rw [absorb_long _ _ (by omega), absorb_long _ _ (by rw [List.length_drop]; omega), absorb_short _ _ (by rw [List.length_drop, List.length_drop]; omega)]
  rw [List.take_of_length_le (l := List.drop 64 _) (by rw [List.length_drop]; omega)]
def hi : List UInt8 := [72, 105, 32, 84, 104, 101, 114, 101]
def hik : List UInt8 := List.replicate 20 0x0b
theorem inner_hi : sum (mpad hik 0x36 ++ hi) = [146, 171, 77, 154, 31, 59, 97, 82, 188, 169, 221, 158, 105, 175, 67, 244, 206, 153, 228, 47, 212, 227, 15, 249, 114, 196, 128, 37, 185, 249, 207, 239] := by
  rw [sum_two _ (by decide +kernel)]
  decide +kernel
theorem tag_hi : (tag hik hi).getD 0 0 = 176 ∧ (tag hik hi).getD 31 0 = 247 := by
  unfold tag
  rw [inner_hi, sum_two _ (by decide +kernel)]
  decide +kernel
theorem fill_hik (k : Nat) (hk : k < 20) : (bv (List.replicate k 0x0b ++ List.replicate (20 - k) 0)).set k (.int .u8 11) = bv (List.replicate (k + 1) 0x0b ++ List.replicate (20 - (k + 1)) 0) := by
  rw [show 20 - k = (20 - (k + 1)) + 1 by omega, bv_append, bv_append]
  have h := set_fill (bv (List.replicate k (0x0b : UInt8))) (20 - (k + 1)) k (.int .u8 0) (.int .u8 11) (by simp [bv])
  have e : bv (List.replicate (20 - (k + 1) + 1) (0 : UInt8)) = List.replicate (20 - (k + 1) + 1) (.int .u8 0) := by simp [bv]
  rw [e, h, List.replicate_succ', bv_append]
  simp [bv]

set_option maxRecDepth 100000 in
set_option maxHeartbeats 1000000 in
theorem lives04 (w : World) : Calls Try.prog 23 #[] w fun e w' => e = .returned (.bool true) ∧ Kp0 w w' := by
  go_enter Try.func23, Try.ntmps23
  go_wp2_with (refine wpl_make _ rfl _ _ 22 rfl 5 (.int .u8 0) 1 Try.underlying22 (by kernel_rfl) rfl .i64 .i64 _ _ 20 rfl rfl rfl rfl (by omega) (by simp only [maxLen]; omega) ?_; intro w2 hE hk2; have hZ : List.replicate 20 (Value.int .u8 0) = bv (List.replicate 0 0x0b ++ List.replicate (20 - 0) 0) := by { simp only [bv, List.replicate_zero, List.nil_append, List.map_replicate]; rfl }; generalize List.replicate 20 (Value.int .u8 0) = Z at hE hZ; have HZ := Lib.hid hZ; clear hZ)
  go_loopg [7] 20 (fun kq v wr => ∃ k : Nat, k ≤ 20 ∧ kq = 20 - k ∧ v = .int .i64 (k : Int) ∧ Blk wr w.heap.size 5 (bv (List.replicate k 0x0b ++ List.replicate (20 - k) 0)) ∧ Kp0 w wr)
  case atStart => exact ⟨0, by omega, rfl, rfl, by rw [← HZ.out]; exact hE, hk2⟩
  case round =>
    clear hE hk2
    obtain ⟨k, hk, rfl, rfl, hB, hK⟩ := hrel
    by_cases hlt : k < 20
    · have hcell : wr.cell? ⟨w.heap.size, k, none⟩ = some (.int .u8 (0 : Int)) := by
        refine hB.cell' ?_
        rw [bv_get _ k (by simp; omega)]
        rw [List.getD_eq_getElem?_getD, List.getElem?_append_right (by simp)]
        simp [show 0 < 20 - k by omega]
      have hfz : wr.frozen? ⟨w.heap.size, k, none⟩ = false := hB.frozen k
      go_wp2
      go_roundg (20 - (k + 1))
      case measure => omega
      case rel =>
        refine ⟨k + 1, by omega, rfl, by go_num, ?_, hK.setCell (fun h => absurd h (by simp)) _⟩
        rw [← fill_hik k hlt]
        exact hB.set k _
    · obtain rfl : k = 20 := by omega
      have hKey : RdB wr (some ⟨w.heap.size, 0, none⟩) hik := .inr ⟨w.heap.size, 0, rfl, fun j _ => by rw [Nat.zero_add, hB.cell j]; rfl⟩
      clear hB
      have hc1 : (convert 22 22 (.slice (some ⟨wr.heap.size, 0, none⟩) 3 3)).run Try.prog (wr.alloc (.cells #[.int .u8 72, .int .u8 105, .int .u8 32] 5)) = .ok (.slice (some ⟨wr.heap.size, 0, none⟩) 3 3) (wr.alloc (.cells #[.int .u8 72, .int .u8 105, .int .u8 32] 5 (3, 4))) := Lib.run_convert_bytes_const wr 22 5 _ 3 3 Try.underlying22 Try.underlying5
      have hc2 : (convert 22 22 (.slice (some ⟨wr.heap.size + 1, 0, none⟩) 5 5)).run Try.prog ((wr.alloc (.cells #[.int .u8 72, .int .u8 105, .int .u8 32] 5 (3, 4))).alloc (.cells #[.int .u8 84, .int .u8 104, .int .u8 101, .int .u8 114, .int .u8 101] 5)) = .ok (.slice (some ⟨wr.heap.size + 1, 0, none⟩) 5 5) ((wr.alloc (.cells #[.int .u8 72, .int .u8 105, .int .u8 32] 5 (3, 4))).alloc (.cells #[.int .u8 84, .int .u8 104, .int .u8 101, .int .u8 114, .int .u8 101] 5 (5, 6))) := Go.Joins.run_convert_bytes_const_at _ 22 5 _ 5 5 _ (by simp) Try.underlying22 Try.underlying5
      have hR1 : RdB (wr.alloc (.cells #[.int .u8 72, .int .u8 105, .int .u8 32] 5 (3, 4))) (some ⟨wr.heap.size, 0, none⟩) [72, 105, 32] := .inr ⟨wr.heap.size, 0, rfl, fun j _ => by rw [Nat.zero_add, World.cell?_alloc_mark wr _ 5 (3, 4) j]; simp [bv]⟩
      have hR2 : RdB ((wr.alloc (.cells #[.int .u8 72, .int .u8 105, .int .u8 32] 5 (3, 4))).alloc (.cells #[.int .u8 84, .int .u8 104, .int .u8 101, .int .u8 114, .int .u8 101] 5 (5, 6))) (some ⟨wr.heap.size + 1, 0, none⟩) [84, 104, 101, 114, 101] := .inr ⟨_, 0, rfl, fun j _ => by rw [Nat.zero_add, Go.Joins.cell_alloc_mark_at _ _ 5 (5, 6) (wr.heap.size + 1) j (by simp)]; simp [bv]⟩
      have hR1' := hR1.alloc (.cells #[.int .u8 84, .int .u8 104, .int .u8 101, .int .u8 114, .int .u8 101] 5 (5, 6))
      have hK1 := (hK.alloc (.cells #[.int .u8 72, .int .u8 105, .int .u8 32] 5 (3, 4))).alloc (.cells #[.int .u8 84, .int .u8 104, .int .u8 101, .int .u8 114, .int .u8 101] 5 (5, 6))
      have hKey1 := (hKey.alloc (.cells #[.int .u8 72, .int .u8 105, .int .u8 32] 5 (3, 4))).alloc (.cells #[.int .u8 84, .int .u8 104, .int .u8 101, .int .u8 114, .int .u8 101] 5 (5, 6))
      have hl : 20 ≤ 100000000000 := by decide
      have hsz : ((wr.alloc (.cells #[.int .u8 72, .int .u8 105, .int .u8 32] 5 (3, 4))).alloc (.cells #[.int .u8 84, .int .u8 104, .int .u8 101, .int .u8 114, .int .u8 101] 5 (5, 6))).heap.size = wr.heap.size + 1 + 1 := by simp
      clear hK hKey hR1
      go_wp2_with fail
      clear hc1 hc2
      have hRR := rdr_new2 (la := 3) (lb := 5) (ca := 3) (cb := 5) rfl rfl hR1' hR2 22
      rw [hsz] at hRR
      have hK2 := hK1.alloc (.cells #[.slice (some ⟨wr.heap.size, 0, none⟩) 3 3, .slice (some ⟨wr.heap.size + 1, 0, none⟩) 5 5] 22)
      have hKey2 := hKey1.alloc (.cells #[.slice (some ⟨wr.heap.size, 0, none⟩) 3 3, .slice (some ⟨wr.heap.size + 1, 0, none⟩) 5 5] 22)
      generalize ((wr.alloc (.cells #[.int .u8 72, .int .u8 105, .int .u8 32] 5 (3, 4))).alloc (.cells #[.int .u8 84, .int .u8 104, .int .u8 101, .int .u8 114, .int .u8 101] 5 (5, 6))).alloc (.cells #[.slice (some ⟨wr.heap.size, 0, none⟩) 3 3, .slice (some ⟨wr.heap.size + 1, 0, none⟩) 5 5] 22) = v3 at hRR hK2 hKey2 ⊢
      refine (tag_any hik [[72, 105, 32], [84, 104, 101, 114, 101]] _ _ 20 20 2 2 (by decide) hl rfl (by omega) (by decide) _ hKey2 hRR).mono ?_
      rintro e w4 ⟨r4, A4, c4, rfl, hO4, hk4, _⟩
      have ht := tag_hi
      rw [show [[72, 105, 32], [84, 104, 101, 114, 101]].flatten = hi from rfl] at hO4
      have hln := length_tag hik hi
      generalize tag hik hi = T at *
      obtain ⟨b4, o4, _, rfl, _, _⟩ := hO4.lt (by decide)
      have h0 : w4.cell? ⟨b4, o4, none⟩ = some (.int .u8 176) := at_byte hO4.rd 0 176 (by omega) ht.1
      have h1 : w4.cell? ⟨b4, o4 + 31, none⟩ = some (.int .u8 247) := at_byte hO4.rd 31 247 (by omega) ht.2
      go_wp2_with fail
      go_ret
      exact ⟨rfl, hK2.then0 hk4⟩
/-- Whether every part is of at most 500 bytes. -/
def fewB (xss : List (List UInt8)) : Bool := xss.all fun x => decide (x.length ≤ 500)

set_option maxRecDepth 100000 in
set_option maxHeartbeats 1000000 in
theorem few_any (xss : List (List UInt8)) (n c : Nat) (A : Option Addr) (hn : xss.length = n) (hn2 : n ≤ 9223372036854775807) (w : World) (hr : RdR w A xss) :
    Calls Try.prog 24 #[.slice A n c] w fun e w' => e = .returned (.bool (fewB xss)) ∧ w' = w := by
  go_enter Try.func24, Try.ntmps24
  go_wp2
  go_loopg [7] n (fun kq v wr => ∃ k : Nat, k ≤ n ∧ kq = n - k ∧ v = .int .i64 (k : Int) ∧ wr = w ∧ (xss.take k).all (fun x => decide (x.length ≤ 500)) = true)
  case atStart => exact ⟨0, by omega, rfl, rfl, rfl, rfl⟩
  case round =>
    obtain ⟨k, hk, rfl, rfl, rfl, hall⟩ := hrel
    have HA := Lib.hid hall
    clear hall
    by_cases hlt : k < n
    · obtain ⟨b, o, D, c4, rfl, hcell, hB⟩ := hr.at_ (j := k) (by omega)
      have hx : xss[k]? = some (xss.getD k []) := by rw [List.getD_eq_getElem?_getD, List.getElem?_eq_getElem (by omega)]; rfl
      have HX := Lib.hid hx
      generalize xss.getD k [] = x at *
      clear hx
      by_cases h5 : 500 < x.length
      · go_wp2
        go_ret
        refine ⟨?_, rfl⟩
        have : fewB xss = false := by
          unfold fewB
          rw [List.all_eq_false]
          exact ⟨x, List.mem_of_getElem? HX.out, by simp; omega⟩
        rw [this]
        rfl
      · go_wp2
        go_roundg (n - (k + 1))
        case measure => omega
        case rel =>
          refine ⟨k + 1, by omega, rfl, by go_num, rfl, ?_⟩
          rw [List.take_add_one, HX.out, List.all_append, HA.out]
          simp; omega
    · obtain rfl : k = n := by omega
      go_wp2
      go_ret
      refine ⟨?_, rfl⟩
      have h := HA.out
      rw [List.take_of_length_le (by omega)] at h
      unfold fewB
      rw [h]
      rfl
end Go.Proofs.Ytbkmfoelaapkaaa
