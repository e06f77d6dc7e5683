/- The document's answer for chapter 4: Join and Tag. -/
import Derived.Test.YtbkmfoelaapkaaaRefSum
import Derived.Test.YtbkmfoelaapkaaaMac
namespace Go.Proofs.Ytbkmfoelaapkaaa
open Go Go.RowKit Sha

set_option maxRecDepth 100000 in
set_option maxHeartbeats 1000000 in
theorem join_any (xss : List (List UInt8)) (n c : Nat) (A : Option Addr) (hn : xss.length = n) (hn2 : n ≤ 9223372036854775807) (hl : xss.flatten.length ≤ 100000000) (w : World) (hr : RdR w A xss) :
    Calls Try.prog 27 #[.slice A n c] w fun e w' => ∃ r' A' c', e = .returned (.slice A' xss.flatten.length c') ∧ Own w' w.heap.size 5 r' A' xss.flatten.length c' (bv xss.flatten) ∧ Kp0 w w' ∧ ∀ k, r' = some k → w.heap.size ≤ k := by
  go_enter Try.func27, Try.ntmps27
  go_wp2
  go_loopg [3, 9] n (fun kq v3 v9 wr => ∃ (k : Nat) (A' : Option Addr) (c' : Nat) (r' : Option Nat), k ≤ n ∧ kq = n - k ∧ v9 = .int .i64 (k : Int) ∧ v3 = .slice A' (xss.take k).flatten.length c' ∧ Own wr w.heap.size 5 r' A' (xss.take k).flatten.length c' (bv (xss.take k).flatten) ∧ Kp0 w wr ∧ ∀ j, r' = some j → w.heap.size ≤ j)
  case atStart => exact ⟨0, _, 0, none, by omega, rfl, rfl, rfl, Own.empty _ _ _ _ _, (Kp.refl _ w).alloc _, fun j h => by cases h⟩
  case round =>
    obtain ⟨k, A', c', r', hk, rfl, rfl, rfl, hO, hK, hrl⟩ := hrel
    by_cases hlt : k < n
    · obtain ⟨b, o, D, c4, rfl, hcell, hB⟩ := (hr.kept0 hK).at_ (j := k) (by omega)
      have hfl := flat_take_succ xss k (by omega)
      have h1 := flat_take_le xss k
      have h2 := flat_take_le xss (k + 1)
      have h3 : (xss.take (k + 1)).flatten.length = (xss.take k).flatten.length + (xss.getD k []).length := by rw [hfl, List.length_append]
      have HF := Lib.hid hfl
      have HF3 := Lib.hid h3
      generalize xss.getD k [] = x at *
      generalize hM : (xss.take k).flatten = M at *
      have HM := Lib.hid hM
      have hb1 : M.length + x.length ≤ 100000000 := by omega
      clear hfl h1 h2 h3 hM
      generalize hML : M.length = ml at *
      generalize hXL : x.length = xl at *
      go_wp2_with (at_builtin; refine wpl_append _ rfl (.tmp 13) (.tmp 14) 22 rfl 5 (.int .u8 0) 1 Try.underlying22 (by kernel_rfl) rfl w.heap.size r' A' ml c' (bv M) rfl hO D xl c4 (bv x) rfl ((length_bv x).trans hXL) hB (one_bv _) ?h1 ?h2 ?h3 ?_)
      case h1 => exact hK.size
      case h2 => simp only [maxLen]; omega
      case h3 => omega
      intro A2 c2 r2 w2 hO2 hk2 hr2
      go_wp2
      go_roundg (n - (k + 1))
      case measure => omega
      case rel =>
        refine ⟨k + 1, A2, c2, r2, by omega, rfl, by go_num, by rw [HF3.out], ?_, hK.past hk2 (fun i e => hrl i e.symm), ?_⟩
        · rw [HF3.out, HF.out, bv_append]
          exact hO2
        · intro j hj
          rcases hr2 with h | ⟨j', h, h2, _⟩
          · exact hrl j (h ▸ hj)
          · rw [h] at hj; injection hj with hj; subst hj; have := hK.size; omega
    · obtain rfl : k = n := by omega
      have hfull : xss.take k = xss := List.take_of_length_le (by omega)
      rw [hfull] at hO ⊢
      go_wp2
      go_ret
      exact ⟨r', A', c', rfl, hO, hK, hrl⟩

theorem filled_get (key : List UInt8) (k : Nat) (hk : k < 64) : (filled key).getD k 0 = if k < (mkey key).length then (mkey key).getD k 0 else 0 := by
  unfold filled
  split
  · rename_i h
    rw [List.getD_eq_getElem?_getD, List.getElem?_append_left h, ← List.getD_eq_getElem?_getD]
  · rename_i h
    rw [List.getD_eq_getElem?_getD, List.getElem?_append_right (by omega)]
    simp only [zeros, List.getElem?_replicate]
    split <;> rfl
theorem mpad_succ (key : List UInt8) (x : UInt8) (k : Nat) (hk : k < 64) : (mpad key x).take (k + 1) = (mpad key x).take k ++ [(filled key).getD k 0 ^^^ x] := by
  rw [List.take_add_one]
  congr 1
  have h : k < (filled key).length := by rw [length_filled]; exact hk
  simp [mpad, List.getElem?_eq_getElem h, List.getD_eq_getElem?_getD]

set_option maxRecDepth 100000 in
set_option maxHeartbeats 2000000 in
theorem rtag_any (key b : List UInt8) (A B : Option Addr) (m c n c2 : Nat) (hm : key.length = m) (hl : m ≤ 100000) (hn : b.length = n) (hl2 : n ≤ 100000) (w : World) (hr : RdB w A key) (hb : RdB w B b) :
    Calls Try.prog 26 #[.slice A m c, .slice B n c2] w fun e w' => ∃ r' A' c', e = .returned (.slice A' 32 c') ∧ Own w' w.heap.size 5 r' A' 32 c' (bv (tag key b)) ∧ Kp0 w w' := by
  have hML := mkey_le key
  by_cases h64 : 64 < m
  · have hMK : mkey key = sum key := by unfold mkey; rw [if_pos (by omega)]
    go_enter Try.func26, Try.ntmps26
    go_wp2_with fail
    refine (rsum_any key A m c hm (by omega) _ hr).mono ?_
    rintro e w1 ⟨r1, A1, c1, rfl, hO1, hk1⟩
    obtain ⟨k1, hk32⟩ : ∃ k, k = 32 := ⟨_, rfl⟩
    have hK1 : (mkey key).length = k1 := by rw [hMK, length_sum, hk32]
    have hR1 : RdB w1 A1 (mkey key) := by rw [hMK]; exact hO1.rd
    clear hO1 hMK
    rw [← hk32]
    clear hk32
    go_wp2
    have z00 := hk1.size
    go_loopg [5, 6, 7] 64 (fun kq v5 v6 v7 wr => ∃ (k : Nat) (Ai : Option Addr) (ci : Nat) (ri : Option Nat) (Ao : Option Addr) (co : Nat) (ro : Option Nat), k ≤ 64 ∧ kq = 64 - k ∧ v7 = .int .i64 (k : Int) ∧ v5 = .slice Ai k ci ∧ v6 = .slice Ao k co ∧ Own wr w1.heap.size 5 ri Ai k ci (bv ((mpad key 0x36).take k)) ∧ Own wr w1.heap.size 5 ro Ao k co (bv ((mpad key 0x5c).take k)) ∧ (∀ j, ri = some j → w1.heap.size ≤ j ∧ j < wr.heap.size) ∧ (∀ j, ro = some j → w1.heap.size ≤ j ∧ j < wr.heap.size ∧ ri ≠ some j) ∧ Kp0 w1 wr ∧ w1.heap.size ≤ wr.heap.size)
    case atStart => exact ⟨0, _, 0, none, _, 0, none, by omega, rfl, rfl, rfl, rfl, Own.empty _ _ _ _ _, Own.empty _ _ _ _ _, (fun j h => by cases h), (fun j h => by cases h), ((Kp.refl _ w1).alloc _).alloc _, (by simp; omega)⟩
    case round =>
      obtain ⟨k, Ai, ci, ri, Ao, co, ro, hk, rfl, rfl, rfl, rfl, hI, hO, hri, hro, hK, z0⟩ := hrel
      by_cases hlt : k < 64
      · have hI1 := mpad_succ key 0x36 k hlt
        have hO1 := mpad_succ key 0x5c k hlt
        have hfg := filled_get key k hlt
        rw [hK1] at hfg
        by_cases hlk : k < k1
        · rw [if_pos hlk] at hfg
          have hKr : RdB wr A1 (mkey key) := hR1.kept0 hK
          obtain ⟨b1, o1, rfl, hca⟩ := RdB.at_ hKr (j := k) (by omega)
          rw [← hfg] at hca
          generalize (filled key).getD k 0 = y at *
          have HI := Lib.hid hI1
          have HO := Lib.hid hO1
          clear hI1 hO1 hfg
          go_wp2_with (at_builtin; refine wpl_appendN wr rfl (.tmp 28) (.tmp 31) 22 rfl 5 (.int .u8 0) 1 Try.underlying22 (by kernel_rfl) rfl w1.heap.size ri Ai k ci _ rfl hI 1 [.int .u8 (bits BinOp.xor IntKind.u8 (y.toNat : Int) 54)] rfl rfl rfl ?h5 ?h6 (by decide) ?_)
          case h5 => exact z0
          case h6 => omega
          intro A2 c2 r2 w2 hI2 hk2 hr2
          have hO2 : Own w2 w1.heap.size 5 ro Ao k co (bv ((mpad key 0x5c).take k)) := hO.kept hk2 (fun j hj e => (hro j hj).2.2 e.symm)
          have z2 := hk2.size
          have hr2' : ∀ j, r2 = some j → w1.heap.size ≤ j ∧ j < w2.heap.size := fun j hj => by
            rcases hr2 with h | ⟨j', h, h2, h3⟩
            · have := hri j (h ▸ hj); omega
            · rw [h] at hj; injection hj with hj; omega
          have hro2 : ∀ j, ro = some j → w1.heap.size ≤ j ∧ j < w2.heap.size ∧ r2 ≠ some j := fun j hj => by
            have h0 := hro j hj
            refine ⟨h0.1, by omega, fun e => ?_⟩
            rcases hr2 with h | ⟨j', h, h2, h3⟩
            · exact h0.2.2 (h ▸ e)
            · rw [h] at e; injection e with e; omega
          have hK2 : Kp0 w1 w2 := hK.past hk2 (fun i e => by have := hri i e.symm; omega)
          have z2' : w1.heap.size ≤ w2.heap.size := by omega
          clear hI hO hk2 hr2 hro hri hK z0
          go_wp2_with (at_builtin; refine wpl_appendN w2 rfl (.tmp 33) (.tmp 36) 22 rfl 5 (.int .u8 0) 1 Try.underlying22 (by kernel_rfl) rfl w1.heap.size ro Ao k co _ rfl hO2 1 [.int .u8 (bits BinOp.xor IntKind.u8 (y.toNat : Int) 92)] rfl rfl rfl ?h5 ?h6 (by decide) ?_)
          case h5 => exact z2'
          case h6 => omega
          intro A3 c3 r3 w3 hO3 hk3 hr3
          have hI3 : Own w3 w1.heap.size 5 r2 A2 (k + 1) c2 (bv ((mpad key 0x36).take k) ++ [.int .u8 (bits BinOp.xor IntKind.u8 (y.toNat : Int) 54)]) := hI2.kept hk3 (fun j hj e => (hro2 j e.symm).2.2 hj)
          go_wp2
          go_roundg (64 - (k + 1))
          case measure => omega
          case rel =>
            refine ⟨k + 1, A2, c2, r2, A3, c3, r3, by omega, rfl, by go_num, rfl, rfl, ?_, ?_, fun j hj => ?_, fun j hj => ?_, hK2.past hk3 (fun i e => by have := hro2 i e.symm; omega), by have := hk3.size; omega⟩
            · rw [show bits BinOp.xor IntKind.u8 (y.toNat : Int) 54 = ((y ^^^ 54).toNat : Int) from u8_xor_ y 54] at hI3; rw [HI.out, bv_append]; exact hI3
            · rw [show bits BinOp.xor IntKind.u8 (y.toNat : Int) 92 = ((y ^^^ 92).toNat : Int) from u8_xor_ y 92] at hO3; rw [HO.out, bv_append]; exact hO3
            · have h := hr2' j hj; have := hk3.size; omega
            · rcases hr3 with h | ⟨j', h, h2, h3⟩
              · have h0 := hro2 j (h ▸ hj); have := hk3.size; exact ⟨h0.1, by omega, h0.2.2⟩
              · rw [h] at hj; injection hj with hj; subst hj
                exact ⟨by omega, by omega, fun e => by have := hr2' _ e; omega⟩

        · rw [if_neg hlk] at hfg
          rw [hfg] at hI1 hO1
          obtain ⟨y, hy⟩ : ∃ y : UInt8, y = 0 := ⟨0, rfl⟩
          rw [← hy] at hI1 hO1
          have HI := Lib.hid hI1
          have HO := Lib.hid hO1
          clear hI1 hO1 hfg
          go_wp2_with (at_builtin; refine wpl_appendN wr rfl (.tmp 28) (.tmp 31) 22 rfl 5 (.int .u8 0) 1 Try.underlying22 (by kernel_rfl) rfl w1.heap.size ri Ai k ci _ rfl hI 1 [.int .u8 54] rfl rfl rfl ?h5 ?h6 (by decide) ?_)
          case h5 => exact z0
          case h6 => omega
          intro A2 c2 r2 w2 hI2 hk2 hr2
          have hO2 : Own w2 w1.heap.size 5 ro Ao k co (bv ((mpad key 0x5c).take k)) := hO.kept hk2 (fun j hj e => (hro j hj).2.2 e.symm)
          have z2 := hk2.size
          have hr2' : ∀ j, r2 = some j → w1.heap.size ≤ j ∧ j < w2.heap.size := fun j hj => by
            rcases hr2 with h | ⟨j', h, h2, h3⟩
            · have := hri j (h ▸ hj); omega
            · rw [h] at hj; injection hj with hj; omega
          have hro2 : ∀ j, ro = some j → w1.heap.size ≤ j ∧ j < w2.heap.size ∧ r2 ≠ some j := fun j hj => by
            have h0 := hro j hj
            refine ⟨h0.1, by omega, fun e => ?_⟩
            rcases hr2 with h | ⟨j', h, h2, h3⟩
            · exact h0.2.2 (h ▸ e)
            · rw [h] at e; injection e with e; omega
          have hK2 : Kp0 w1 w2 := hK.past hk2 (fun i e => by have := hri i e.symm; omega)
          have z2' : w1.heap.size ≤ w2.heap.size := by omega
          clear hI hO hk2 hr2 hro hri hK z0
          go_wp2_with (at_builtin; refine wpl_appendN w2 rfl (.tmp 33) (.tmp 36) 22 rfl 5 (.int .u8 0) 1 Try.underlying22 (by kernel_rfl) rfl w1.heap.size ro Ao k co _ rfl hO2 1 [.int .u8 92] rfl rfl rfl ?h5 ?h6 (by decide) ?_)
          case h5 => exact z2'
          case h6 => omega
          intro A3 c3 r3 w3 hO3 hk3 hr3
          have hI3 : Own w3 w1.heap.size 5 r2 A2 (k + 1) c2 (bv ((mpad key 0x36).take k) ++ [.int .u8 54]) := hI2.kept hk3 (fun j hj e => (hro2 j e.symm).2.2 hj)
          go_wp2
          go_roundg (64 - (k + 1))
          case measure => omega
          case rel =>
            refine ⟨k + 1, A2, c2, r2, A3, c3, r3, by omega, rfl, by go_num, rfl, rfl, ?_, ?_, fun j hj => ?_, fun j hj => ?_, hK2.past hk3 (fun i e => by have := hro2 i e.symm; omega), by have := hk3.size; omega⟩
            · rw [HI.out, hy, bv_append]; exact hI3
            · rw [HO.out, hy, bv_append]; exact hO3
            · have h := hr2' j hj; have := hk3.size; omega
            · rcases hr3 with h | ⟨j', h, h2, h3⟩
              · have h0 := hro2 j (h ▸ hj); have := hk3.size; exact ⟨h0.1, by omega, h0.2.2⟩
              · rw [h] at hj; injection hj with hj; subst hj
                exact ⟨by omega, by omega, fun e => by have := hr2' _ e; omega⟩

      · obtain rfl : k = 64 := by omega
        rw [List.take_of_length_le (by rw [length_mpad]; omega)] at hI hO
        have hKw : Kp0 w wr := hk1.then0 hK
        have hbw := hb.kept0 hKw
        go_wp2_with fail
        have hRR := rdr_new2 (length_mpad key 0x36) hn hI.rd hbw (ca := ci) (cb := c2) 22
        refine (join_any [mpad key 0x36, b] 2 2 _ rfl (by omega) (by simp [length_mpad]; omega) _ hRR).mono ?_
        rintro e w2 ⟨r2, A2, c3, rfl, hJ, hk2, _⟩
        have hJe : [mpad key 0x36, b].flatten = mpad key 0x36 ++ b := by simp
        have hJl : [mpad key 0x36, b].flatten.length = 64 + n := by rw [hJe, List.length_append, length_mpad, hn]
        generalize [mpad key 0x36, b].flatten = J at *
        rw [hJl] at hJ ⊢
        have hk2' : Kp0 wr w2 := ((Kp.refl _ wr).alloc _).then0 hk2
        go_wp2_with fail
        refine (rsum_any J A2 (64 + n) c3 hJl (by omega) _ hJ.rd).mono ?_
        rintro e w3 ⟨r3, A3, c4, rfl, hS, hk3⟩
        have hOw := (hO.kept0 hk2').kept0 hk3
        go_wp2_with fail
        have hRR3 := rdr_new2 (length_mpad key 0x5c) (length_sum J) hOw.rd hS.rd (ca := co) (cb := c4) 22
        refine (join_any [mpad key 0x5c, sum J] 2 2 _ rfl (by omega) (by simp [length_mpad, length_sum]) _ hRR3).mono ?_
        rintro e w4 ⟨r4, A4, c5, rfl, hJ4, hk4, _⟩
        have hJe4 : [mpad key 0x5c, sum J].flatten = mpad key 0x5c ++ sum J := by simp
        have hJl4 : [mpad key 0x5c, sum J].flatten.length = 96 := by rw [hJe4, List.length_append, length_mpad, length_sum]
        generalize [mpad key 0x5c, sum J].flatten = J4 at *
        rw [hJl4] at hJ4 ⊢
        go_wp2_with fail
        refine (rsum_any J4 A4 96 c5 hJl4 (by omega) _ hJ4.rd).mono ?_
        rintro e w5 ⟨r5, A5, c6, rfl, hS5, hk5⟩
        have hK5 : Kp0 w w5 := (((hKw.then0 hk2').then0 hk3).then0 (((Kp.refl _ w3).alloc _).then0 hk4)).then0 hk5
        have hK4 : Kp0 w w4 := ((hKw.then0 hk2').then0 hk3).then0 (((Kp.refl _ w3).alloc _).then0 hk4)
        go_wp2_with fail
        go_ret
        refine ⟨r5, A5, c6, rfl, ?_, hK5⟩
        have h := hS5.mono hK4.size
        rw [hJe4, hJe] at h
        exact h
  · have hMK : mkey key = key := by unfold mkey; rw [if_neg (by omega)]
    have hK1 : (mkey key).length = m := by rw [hMK, hm]
    have hR1 : RdB w A (mkey key) := by rw [hMK]; exact hr
    have hk1 : Kp0 w w := Kp.refl _ w
    clear hMK
    go_enter Try.func26, Try.ntmps26
    go_wp2
    have z00 := hk1.size
    go_loopg [5, 6, 7] 64 (fun kq v5 v6 v7 wr => ∃ (k : Nat) (Ai : Option Addr) (ci : Nat) (ri : Option Nat) (Ao : Option Addr) (co : Nat) (ro : Option Nat), k ≤ 64 ∧ kq = 64 - k ∧ v7 = .int .i64 (k : Int) ∧ v5 = .slice Ai k ci ∧ v6 = .slice Ao k co ∧ Own wr w.heap.size 5 ri Ai k ci (bv ((mpad key 0x36).take k)) ∧ Own wr w.heap.size 5 ro Ao k co (bv ((mpad key 0x5c).take k)) ∧ (∀ j, ri = some j → w.heap.size ≤ j ∧ j < wr.heap.size) ∧ (∀ j, ro = some j → w.heap.size ≤ j ∧ j < wr.heap.size ∧ ri ≠ some j) ∧ Kp0 w wr ∧ w.heap.size ≤ wr.heap.size)
    case atStart => exact ⟨0, _, 0, none, _, 0, none, by omega, rfl, rfl, rfl, rfl, Own.empty _ _ _ _ _, Own.empty _ _ _ _ _, (fun j h => by cases h), (fun j h => by cases h), ((Kp.refl _ w).alloc _).alloc _, (by simp; omega)⟩
    case round =>
      obtain ⟨k, Ai, ci, ri, Ao, co, ro, hk, rfl, rfl, rfl, rfl, hI, hO, hri, hro, hK, z0⟩ := hrel
      by_cases hlt : k < 64
      · have hI1 := mpad_succ key 0x36 k hlt
        have hO1 := mpad_succ key 0x5c k hlt
        have hfg := filled_get key k hlt
        rw [hK1] at hfg
        by_cases hlk : k < m
        · rw [if_pos hlk] at hfg
          have hKr : RdB wr A (mkey key) := hR1.kept0 hK
          obtain ⟨b1, o1, rfl, hca⟩ := RdB.at_ hKr (j := k) (by omega)
          rw [← hfg] at hca
          generalize (filled key).getD k 0 = y at *
          have HI := Lib.hid hI1
          have HO := Lib.hid hO1
          clear hI1 hO1 hfg
          go_wp2_with (at_builtin; refine wpl_appendN wr rfl (.tmp 28) (.tmp 31) 22 rfl 5 (.int .u8 0) 1 Try.underlying22 (by kernel_rfl) rfl w.heap.size ri Ai k ci _ rfl hI 1 [.int .u8 (bits BinOp.xor IntKind.u8 (y.toNat : Int) 54)] rfl rfl rfl ?h5 ?h6 (by decide) ?_)
          case h5 => exact z0
          case h6 => omega
          intro A2 c2 r2 w2 hI2 hk2 hr2
          have hO2 : Own w2 w.heap.size 5 ro Ao k co (bv ((mpad key 0x5c).take k)) := hO.kept hk2 (fun j hj e => (hro j hj).2.2 e.symm)
          have z2 := hk2.size
          have hr2' : ∀ j, r2 = some j → w.heap.size ≤ j ∧ j < w2.heap.size := fun j hj => by
            rcases hr2 with h | ⟨j', h, h2, h3⟩
            · have := hri j (h ▸ hj); omega
            · rw [h] at hj; injection hj with hj; omega
          have hro2 : ∀ j, ro = some j → w.heap.size ≤ j ∧ j < w2.heap.size ∧ r2 ≠ some j := fun j hj => by
            have h0 := hro j hj
            refine ⟨h0.1, by omega, fun e => ?_⟩
            rcases hr2 with h | ⟨j', h, h2, h3⟩
            · exact h0.2.2 (h ▸ e)
            · rw [h] at e; injection e with e; omega
          have hK2 : Kp0 w w2 := hK.past hk2 (fun i e => by have := hri i e.symm; omega)
          have z2' : w.heap.size ≤ w2.heap.size := by omega
          clear hI hO hk2 hr2 hro hri hK z0
          go_wp2_with (at_builtin; refine wpl_appendN w2 rfl (.tmp 33) (.tmp 36) 22 rfl 5 (.int .u8 0) 1 Try.underlying22 (by kernel_rfl) rfl w.heap.size ro Ao k co _ rfl hO2 1 [.int .u8 (bits BinOp.xor IntKind.u8 (y.toNat : Int) 92)] rfl rfl rfl ?h5 ?h6 (by decide) ?_)
          case h5 => exact z2'
          case h6 => omega
          intro A3 c3 r3 w3 hO3 hk3 hr3
          have hI3 : Own w3 w.heap.size 5 r2 A2 (k + 1) c2 (bv ((mpad key 0x36).take k) ++ [.int .u8 (bits BinOp.xor IntKind.u8 (y.toNat : Int) 54)]) := hI2.kept hk3 (fun j hj e => (hro2 j e.symm).2.2 hj)
          go_wp2
          go_roundg (64 - (k + 1))
          case measure => omega
          case rel =>
            refine ⟨k + 1, A2, c2, r2, A3, c3, r3, by omega, rfl, by go_num, rfl, rfl, ?_, ?_, fun j hj => ?_, fun j hj => ?_, hK2.past hk3 (fun i e => by have := hro2 i e.symm; omega), by have := hk3.size; omega⟩
            · rw [show bits BinOp.xor IntKind.u8 (y.toNat : Int) 54 = ((y ^^^ 54).toNat : Int) from u8_xor_ y 54] at hI3; rw [HI.out, bv_append]; exact hI3
            · rw [show bits BinOp.xor IntKind.u8 (y.toNat : Int) 92 = ((y ^^^ 92).toNat : Int) from u8_xor_ y 92] at hO3; rw [HO.out, bv_append]; exact hO3
            · have h := hr2' j hj; have := hk3.size; omega
            · rcases hr3 with h | ⟨j', h, h2, h3⟩
              · have h0 := hro2 j (h ▸ hj); have := hk3.size; exact ⟨h0.1, by omega, h0.2.2⟩
              · rw [h] at hj; injection hj with hj; subst hj
                exact ⟨by omega, by omega, fun e => by have := hr2' _ e; omega⟩

        · rw [if_neg hlk] at hfg
          rw [hfg] at hI1 hO1
          obtain ⟨y, hy⟩ : ∃ y : UInt8, y = 0 := ⟨0, rfl⟩
          rw [← hy] at hI1 hO1
          have HI := Lib.hid hI1
          have HO := Lib.hid hO1
          clear hI1 hO1 hfg
          go_wp2_with (at_builtin; refine wpl_appendN wr rfl (.tmp 28) (.tmp 31) 22 rfl 5 (.int .u8 0) 1 Try.underlying22 (by kernel_rfl) rfl w.heap.size ri Ai k ci _ rfl hI 1 [.int .u8 54] rfl rfl rfl ?h5 ?h6 (by decide) ?_)
          case h5 => exact z0
          case h6 => omega
          intro A2 c2 r2 w2 hI2 hk2 hr2
          have hO2 : Own w2 w.heap.size 5 ro Ao k co (bv ((mpad key 0x5c).take k)) := hO.kept hk2 (fun j hj e => (hro j hj).2.2 e.symm)
          have z2 := hk2.size
          have hr2' : ∀ j, r2 = some j → w.heap.size ≤ j ∧ j < w2.heap.size := fun j hj => by
            rcases hr2 with h | ⟨j', h, h2, h3⟩
            · have := hri j (h ▸ hj); omega
            · rw [h] at hj; injection hj with hj; omega
          have hro2 : ∀ j, ro = some j → w.heap.size ≤ j ∧ j < w2.heap.size ∧ r2 ≠ some j := fun j hj => by
            have h0 := hro j hj
            refine ⟨h0.1, by omega, fun e => ?_⟩
            rcases hr2 with h | ⟨j', h, h2, h3⟩
            · exact h0.2.2 (h ▸ e)
            · rw [h] at e; injection e with e; omega
          have hK2 : Kp0 w w2 := hK.past hk2 (fun i e => by have := hri i e.symm; omega)
          have z2' : w.heap.size ≤ w2.heap.size := by omega
          clear hI hO hk2 hr2 hro hri hK z0
          go_wp2_with (at_builtin; refine wpl_appendN w2 rfl (.tmp 33) (.tmp 36) 22 rfl 5 (.int .u8 0) 1 Try.underlying22 (by kernel_rfl) rfl w.heap.size ro Ao k co _ rfl hO2 1 [.int .u8 92] rfl rfl rfl ?h5 ?h6 (by decide) ?_)
          case h5 => exact z2'
          case h6 => omega
          intro A3 c3 r3 w3 hO3 hk3 hr3
          have hI3 : Own w3 w.heap.size 5 r2 A2 (k + 1) c2 (bv ((mpad key 0x36).take k) ++ [.int .u8 54]) := hI2.kept hk3 (fun j hj e => (hro2 j e.symm).2.2 hj)
          go_wp2
          go_roundg (64 - (k + 1))
          case measure => omega
          case rel =>
            refine ⟨k + 1, A2, c2, r2, A3, c3, r3, by omega, rfl, by go_num, rfl, rfl, ?_, ?_, fun j hj => ?_, fun j hj => ?_, hK2.past hk3 (fun i e => by have := hro2 i e.symm; omega), by have := hk3.size; omega⟩
            · rw [HI.out, hy, bv_append]; exact hI3
            · rw [HO.out, hy, bv_append]; exact hO3
            · have h := hr2' j hj; have := hk3.size; omega
            · rcases hr3 with h | ⟨j', h, h2, h3⟩
              · have h0 := hro2 j (h ▸ hj); have := hk3.size; exact ⟨h0.1, by omega, h0.2.2⟩
              · rw [h] at hj; injection hj with hj; subst hj
                exact ⟨by omega, by omega, fun e => by have := hr2' _ e; omega⟩

      · obtain rfl : k = 64 := by omega
        rw [List.take_of_length_le (by rw [length_mpad]; omega)] at hI hO
        have hKw : Kp0 w wr := hk1.then0 hK
        have hbw := hb.kept0 hKw
        go_wp2_with fail
        have hRR := rdr_new2 (length_mpad key 0x36) hn hI.rd hbw (ca := ci) (cb := c2) 22
        refine (join_any [mpad key 0x36, b] 2 2 _ rfl (by omega) (by simp [length_mpad]; omega) _ hRR).mono ?_
        rintro e w2 ⟨r2, A2, c3, rfl, hJ, hk2, _⟩
        have hJe : [mpad key 0x36, b].flatten = mpad key 0x36 ++ b := by simp
        have hJl : [mpad key 0x36, b].flatten.length = 64 + n := by rw [hJe, List.length_append, length_mpad, hn]
        generalize [mpad key 0x36, b].flatten = J at *
        rw [hJl] at hJ ⊢
        have hk2' : Kp0 wr w2 := ((Kp.refl _ wr).alloc _).then0 hk2
        go_wp2_with fail
        refine (rsum_any J A2 (64 + n) c3 hJl (by omega) _ hJ.rd).mono ?_
        rintro e w3 ⟨r3, A3, c4, rfl, hS, hk3⟩
        have hOw := (hO.kept0 hk2').kept0 hk3
        go_wp2_with fail
        have hRR3 := rdr_new2 (length_mpad key 0x5c) (length_sum J) hOw.rd hS.rd (ca := co) (cb := c4) 22
        refine (join_any [mpad key 0x5c, sum J] 2 2 _ rfl (by omega) (by simp [length_mpad, length_sum]) _ hRR3).mono ?_
        rintro e w4 ⟨r4, A4, c5, rfl, hJ4, hk4, _⟩
        have hJe4 : [mpad key 0x5c, sum J].flatten = mpad key 0x5c ++ sum J := by simp
        have hJl4 : [mpad key 0x5c, sum J].flatten.length = 96 := by rw [hJe4, List.length_append, length_mpad, length_sum]
        generalize [mpad key 0x5c, sum J].flatten = J4 at *
        rw [hJl4] at hJ4 ⊢
        go_wp2_with fail
        refine (rsum_any J4 A4 96 c5 hJl4 (by omega) _ hJ4.rd).mono ?_
        rintro e w5 ⟨r5, A5, c6, rfl, hS5, hk5⟩
        have hK5 : Kp0 w w5 := (((hKw.then0 hk2').then0 hk3).then0 (((Kp.refl _ w3).alloc _).then0 hk4)).then0 hk5
        have hK4 : Kp0 w w4 := ((hKw.then0 hk2').then0 hk3).then0 (((Kp.refl _ w3).alloc _).then0 hk4)
        go_wp2_with fail
        go_ret
        refine ⟨r5, A5, c6, rfl, ?_, hK5⟩
        have h := hS5.mono hK4.size
        rw [hJe4, hJe] at h
        exact h
end Go.Proofs.Ytbkmfoelaapkaaa
