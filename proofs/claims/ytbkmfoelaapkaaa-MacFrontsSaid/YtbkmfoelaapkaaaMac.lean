/- Layer 4 (mac): what its Go functions compute. -/
import Derived.Test.YtbkmfoelaapkaaaIn
namespace Go.Proofs.Ytbkmfoelaapkaaa
open Go Go.RowKit Sha

/-! ### Plain: tags -/
def mkey (key : List UInt8) : List UInt8 := if 64 < key.length then sum key else key
def filled (key : List UInt8) : List UInt8 := mkey key ++ zeros (64 - (mkey key).length)
def mpad (key : List UInt8) (x : UInt8) : List UInt8 := (filled key).map fun b => b ^^^ x
def tag (key msg : List UInt8) : List UInt8 := sum (mpad key 0x5c ++ sum (mpad key 0x36 ++ msg))
theorem mkey_le (key : List UInt8) : (mkey key).length ≤ 64 := by
  unfold mkey
  split
  · rw [length_sum]; decide
  · omega
theorem length_filled (key : List UInt8) : (filled key).length = 64 := by
  have := mkey_le key
  simp [filled, zeros]; omega
theorem length_mpad (key : List UInt8) (x : UInt8) : (mpad key x).length = 64 := by simp [mpad, length_filled]
theorem length_tag (key msg : List UInt8) : (tag key msg).length = 32 := length_sum _

theorem fill_row (key : List UInt8) : bv (mkey key) ++ List.drop (bv (mkey key)).length (List.replicate 64 (Value.int .u8 0)) = bv (filled key) := by
  rw [List.drop_replicate, length_bv, filled, bv_append]
  congr 1
  simp [bv, zeros]

/-! ### The walks -/
theorem rdr_new1 {w : World} {A : Option Addr} {a : List UInt8} {la ca : Nat} (ha : a.length = la) (ra : RdB w A a) (t : TypeId) :
    RdR (w.alloc (.cells #[.slice A la ca] t)) (some ⟨w.heap.size, 0, none⟩) [a] := by
  refine ⟨[.slice A la ca], rfl, rd_new w t _, fun j hj => ?_⟩
  have : j = 0 := by simp at hj; omega
  subst this
  exact ⟨A, ca, by simp [ha], ra.alloc _⟩

set_option maxRecDepth 100000 in
set_option maxHeartbeats 1000000 in
theorem pad_any (key : List UInt8) (x : UInt8) (A : Option Addr) (m c : Nat) (hm : key.length = m) (hl : m ≤ 100000000000) (w : World) (hr : RdB w A key) :
    Calls Try.prog 40 #[.slice A m c, .int .u8 (x.toNat : Int)] w fun e w' => ∃ g, e = .returned (.slice (some ⟨g, 0, none⟩) 64 64) ∧ Blk w' g 5 (bv (mpad key x)) ∧ w.heap.size ≤ g ∧ Kp0 w w' := by
  have hML := mkey_le key
  have hFL := length_filled key
  by_cases h64 : 64 < m
  · have hMK : mkey key = sum key := by unfold mkey; rw [if_pos (by omega)]
    go_enter Try.func40, Try.ntmps40
    go_wp2_with fail
    refine (ssum_any [key] 1 1 _ rfl (by omega) (by simp; omega) _ (rdr_new1 hm hr 22)).mono ?_
    rintro e w1 ⟨r1, A1, c1, rfl, hO1, hk1', _⟩
    obtain ⟨k1, hk32⟩ : ∃ k, k = 32 := ⟨_, rfl⟩
    have hK1 : (mkey key).length = k1 := by rw [hMK, length_sum, hk32]
    have hR1 : RdB w1 A1 (mkey key) := by rw [hMK]; simpa using hO1.rd
    have hk1 : Kp0 w w1 := ((Kp.refl _ w).alloc _).then0 hk1'
    clear hk1' hO1 hMK
    rw [← hk32]
    clear hk32
    go_wp2_with (first | (refine wpl_make _ rfl _ _ 22 rfl 5 (.int .u8 0) 1 Try.underlying22 (by kernel_rfl) rfl .i64 .i64 _ _ 64 rfl rfl rfl rfl (by omega) (by simp only [maxLen]; omega) ?_; intro w2 hE hk2; have hZ := fill_row key; have hZl : (List.replicate 64 (Value.int .u8 0)).length = 64 := List.length_replicate; generalize List.replicate 64 (Value.int .u8 0) = Z at hE hZ hZl; have HZ := Lib.hid hZ; clear hZ; have hR2 := hR1.kept0 hk2) | (refine wpl_copy rfl (.tmp 14) (.tmp 15) 22 22 rfl 5 Try.underlying22 (by kernel_rfl) w1.heap.size 0 64 64 A1 k1 c1 rfl rfl _ 5 hE (bv (mkey key)) ?h4 hR2 ?h5 (one_bv _) ?_))
    case h4 => rw [length_bv, hK1]; exact (Nat.min_eq_left (by omega)).symm
    case h5 => rw [length_bv, hZl]; omega
    intro w3 hE3 hk3
    have hgl0 := hk1.size
    generalize hgW : w1.heap.size = g at hE3 hE hk3 ⊢
    have hgl : w.heap.size ≤ g := by omega
    clear hgW hgl0
    have hE4 : Blk w3 g 5 (bv ((mpad key x).take (0 : Nat) ++ (filled key).drop 0)) := by
      rw [HZ.out] at hE3
      simpa using hE3
    have hK3 : Kp0 w w3 := (hk1.then0 hk2).past hk3 (fun i e => by have e' : i = g := e; omega)
    have hlk := hE4.lt
    clear hE hE3 hk1 hk2 hk3 hR1 hR2
    go_wp2
    go_loopg [19] 64 (fun kq v wr => ∃ k : Nat, k ≤ 64 ∧ kq = 64 - k ∧ v = .int .i64 (k : Int) ∧ Blk wr g 5 (bv ((mpad key x).take k ++ (filled key).drop k)) ∧ Kp0 w wr)
    case atStart => exact ⟨0, by omega, rfl, rfl, hE4, hK3⟩
    case round =>
      clear hE4 hK3
      obtain ⟨k, hk, rfl, rfl, hB, hK⟩ := hrel
      by_cases hlt : k < 64
      · have hPL := length_mpad key x
        have hcell : wr.cell? ⟨g, k, none⟩ = some (.int .u8 (((filled key).getD k 0).toNat : Int)) := by
          refine hB.cell' ?_
          rw [bv_get _ k (by simp; omega)]
          rw [List.getD_eq_getElem?_getD, List.getElem?_append_right (by simp; omega), List.getElem?_drop, List.length_take, Nat.min_eq_left (by omega), Nat.sub_self, Nat.add_zero, ← List.getD_eq_getElem?_getD]
        have hfz : wr.frozen? ⟨g, k, none⟩ = false := hB.frozen k
        have hset : (bv ((mpad key x).take k ++ (filled key).drop k)).set k (.int .u8 ((((filled key).getD k 0) ^^^ x).toNat : Int)) = bv ((mpad key x).take (k + 1) ++ (filled key).drop (k + 1)) := by
          have h1 := mix_set (bv (mpad key x)) (bv (filled key)) k (.int .u8 ((((filled key).getD k 0) ^^^ x).toNat : Int)) (by simp [bv, hPL, hFL]) (by
            rw [bv_get _ k (by omega)]
            congr 4
            simp [mpad, List.getD_eq_getElem?_getD, List.getElem?_eq_getElem (show k < (filled key).length by omega)])
          simpa [bv, List.map_take, List.map_drop] using h1
        generalize (filled key).getD k 0 = y at *
        have HS := Lib.hid hset
        clear hset
        go_wp2
        go_roundg (64 - (k + 1))
        case measure => omega
        case rel =>
          refine ⟨k + 1, by omega, rfl, by go_num, ?_, hK.setCell (fun h => absurd h (by simp; omega)) _⟩
          rw [← HS.out]
          have h := hB.set k (.int .u8 ((y ^^^ x).toNat : Int))
          rw [← u8_xor_] at h
          rw [← u8_xor_]
          exact h
      · obtain rfl : k = 64 := by omega
        go_wp2
        go_ret
        refine ⟨g, rfl, ?_, hgl, hK⟩
        rw [List.take_of_length_le (by rw [length_mpad]; omega), List.drop_eq_nil_of_le (by omega), List.append_nil] at hB
        exact hB
  · have hMK : mkey key = key := by unfold mkey; rw [if_neg (by omega)]
    have hK1 : (mkey key).length = m := by rw [hMK, hm]
    have hR1 : RdB w A (mkey key) := by rw [hMK]; exact hr
    have hk1 : Kp0 w w := Kp.refl _ w
    clear hMK
    go_enter Try.func40, Try.ntmps40
    go_wp2_with (first | (refine wpl_make _ rfl _ _ 22 rfl 5 (.int .u8 0) 1 Try.underlying22 (by kernel_rfl) rfl .i64 .i64 _ _ 64 rfl rfl rfl rfl (by omega) (by simp only [maxLen]; omega) ?_; intro w2 hE hk2; have hZ := fill_row key; have hZl : (List.replicate 64 (Value.int .u8 0)).length = 64 := List.length_replicate; generalize List.replicate 64 (Value.int .u8 0) = Z at hE hZ hZl; have HZ := Lib.hid hZ; clear hZ; have hR2 := hR1.kept0 hk2) | (refine wpl_copy rfl (.tmp 14) (.tmp 15) 22 22 rfl 5 Try.underlying22 (by kernel_rfl) w.heap.size 0 64 64 A m c rfl rfl _ 5 hE (bv (mkey key)) ?h4 hR2 ?h5 (one_bv _) ?_))
    case h4 => rw [length_bv, hK1]; exact (Nat.min_eq_left (by omega)).symm
    case h5 => rw [length_bv, hZl]; omega
    intro w3 hE3 hk3
    have hgl0 := hk1.size
    generalize hgW : w.heap.size = g at hE3 hE hk3 ⊢
    have hgl : w.heap.size ≤ g := by omega
    clear hgW hgl0
    have hE4 : Blk w3 g 5 (bv ((mpad key x).take (0 : Nat) ++ (filled key).drop 0)) := by
      rw [HZ.out] at hE3
      simpa using hE3
    have hK3 : Kp0 w w3 := (hk1.then0 hk2).past hk3 (fun i e => by have e' : i = g := e; omega)
    have hlk := hE4.lt
    clear hE hE3 hk1 hk2 hk3 hR1 hR2
    go_wp2
    go_loopg [19] 64 (fun kq v wr => ∃ k : Nat, k ≤ 64 ∧ kq = 64 - k ∧ v = .int .i64 (k : Int) ∧ Blk wr g 5 (bv ((mpad key x).take k ++ (filled key).drop k)) ∧ Kp0 w wr)
    case atStart => exact ⟨0, by omega, rfl, rfl, hE4, hK3⟩
    case round =>
      clear hE4 hK3
      obtain ⟨k, hk, rfl, rfl, hB, hK⟩ := hrel
      by_cases hlt : k < 64
      · have hPL := length_mpad key x
        have hcell : wr.cell? ⟨g, k, none⟩ = some (.int .u8 (((filled key).getD k 0).toNat : Int)) := by
          refine hB.cell' ?_
          rw [bv_get _ k (by simp; omega)]
          rw [List.getD_eq_getElem?_getD, List.getElem?_append_right (by simp; omega), List.getElem?_drop, List.length_take, Nat.min_eq_left (by omega), Nat.sub_self, Nat.add_zero, ← List.getD_eq_getElem?_getD]
        have hfz : wr.frozen? ⟨g, k, none⟩ = false := hB.frozen k
        have hset : (bv ((mpad key x).take k ++ (filled key).drop k)).set k (.int .u8 ((((filled key).getD k 0) ^^^ x).toNat : Int)) = bv ((mpad key x).take (k + 1) ++ (filled key).drop (k + 1)) := by
          have h1 := mix_set (bv (mpad key x)) (bv (filled key)) k (.int .u8 ((((filled key).getD k 0) ^^^ x).toNat : Int)) (by simp [bv, hPL, hFL]) (by
            rw [bv_get _ k (by omega)]
            congr 4
            simp [mpad, List.getD_eq_getElem?_getD, List.getElem?_eq_getElem (show k < (filled key).length by omega)])
          simpa [bv, List.map_take, List.map_drop] using h1
        generalize (filled key).getD k 0 = y at *
        have HS := Lib.hid hset
        clear hset
        go_wp2
        go_roundg (64 - (k + 1))
        case measure => omega
        case rel =>
          refine ⟨k + 1, by omega, rfl, by go_num, ?_, hK.setCell (fun h => absurd h (by simp; omega)) _⟩
          rw [← HS.out]
          have h := hB.set k (.int .u8 ((y ^^^ x).toNat : Int))
          rw [← u8_xor_] at h
          rw [← u8_xor_]
          exact h
      · obtain rfl : k = 64 := by omega
        go_wp2
        go_ret
        refine ⟨g, rfl, ?_, hgl, hK⟩
        rw [List.take_of_length_le (by rw [length_mpad]; omega), List.drop_eq_nil_of_le (by omega), List.append_nil] at hB
        exact hB

set_option maxRecDepth 100000 in
set_option maxHeartbeats 1000000 in
theorem tag_any (key : List UInt8) (xss : List (List UInt8)) (A B : Option Addr) (m c n c2 : Nat) (hm : key.length = m) (hl : m ≤ 100000000000) (hn : xss.length = n) (hn2 : n ≤ 9223372036854775807) (hl2 : xss.flatten.length ≤ 90000000000) (w : World) (hr : RdB w A key) (hR : RdR w B xss) :
    Calls Try.prog 25 #[.slice A m c, .slice B n c2] w fun e w' => ∃ r' A' c', e = .returned (.slice A' 32 c') ∧ Own w' w.heap.size 5 r' A' 32 c' (bv (tag key xss.flatten)) ∧ Kp0 w w' ∧ ∀ k, r' = some k → w.heap.size ≤ k := by
  go_enter Try.func25, Try.ntmps25
  go_wp2_with fail
  refine (new_any w.heap.size _ (Nat.le_refl _)).mono ?_
  rintro e w1 ⟨g, rfl, hg, hH, hk1⟩
  go_wp2_with fail
  refine (pad_any key 0x36 A m c hm hl _ (hr.kept0 hk1)).mono ?_
  rintro e w2 ⟨g1, rfl, hP, hg1, hk2⟩
  go_wp2_with fail
  refine (add_any w.heap.size g none [] (some ⟨g1, 0, none⟩) 64 64 (mpad key 0x36) (length_mpad _ _) (by decide) _ (by have := hk1.size; have := hk2.size; omega) (hH.kept0 hk2) (.inr ⟨g1, 0, rfl, fun j _ => by rw [Nat.zero_add]; exact hP.cell j⟩)).mono ?_
  rintro e w3 ⟨rfl, r3, hH3, hr3, hk3⟩
  have hg3 := HashAt.lt hH3
  have z1 := hk1.size
  have z2 := hk2.size
  have z3 := hk3.size
  have hK3 : Kp0 w w3 := (hk1.then0 hk2).past hk3 (by
    rintro i (e | e)
    · omega
    · cases e)
  have hr3' : ∀ k, r3 = some k → w.heap.size ≤ k := by
    intro k hk
    rcases hr3 with h | ⟨j, h, h2⟩
    · rw [h] at hk; cases hk
    · rw [h] at hk; injection hk with hk; omega
  clear hH hk1 hk2 hk3 hP hr3
  go_wp2
  go_loopg [15] n (fun kq v15 wr => ∃ (k : Nat) (r : Option Nat), k ≤ n ∧ kq = n - k ∧ v15 = .int .i64 (k : Int) ∧ HashAt wr w.heap.size g r (mpad key 0x36 ++ (xss.take k).flatten) ∧ Kp0 w wr ∧ ∀ j, r = some j → w.heap.size ≤ j)
  case atStart => exact ⟨0, r3, by omega, rfl, rfl, by simpa using hH3, hK3, hr3'⟩
  case round =>
    clear hH3 hK3 hr3'
    obtain ⟨k, r, hk, rfl, rfl, hH, hK, hrl⟩ := hrel
    by_cases hlt : k < n
    · obtain ⟨b, o, D, c4, rfl, hcell, hB⟩ := (hR.kept0 hK).at_ (j := k) (by omega)
      have hfl := flat_take_succ xss k (by omega)
      have h1 := flat_take_le xss k
      have h2 := flat_take_le xss (k + 1)
      have h3 : (xss.take (k + 1)).flatten.length = (xss.take k).flatten.length + (xss.getD k []).length := by rw [hfl, List.length_append]
      have HF := Lib.hid hfl
      generalize xss.getD k [] = x at *
      generalize hM : (xss.take k).flatten = M at *
      have HM := Lib.hid hM
      have hb1 : M.length + x.length ≤ 90000000000 := by omega
      clear hfl h1 h2 h3 hM
      have hlp := length_mpad key 0x36
      go_wp2_with fail
      refine (add_any w.heap.size g r (mpad key 0x36 ++ M) D x.length c4 x rfl (by rw [List.length_append]; omega) _ hK.size hH hB).mono ?_
      rintro e w2 ⟨rfl, r2, hH2, hr2, hk2⟩
      go_wp2
      go_roundg (n - (k + 1))
      case measure => omega
      case rel =>
        refine ⟨k + 1, r2, by omega, rfl, by go_num, by rw [HF.out, ← List.append_assoc]; exact hH2, hK.trans hk2 (fun j hj e => ?_), fun j hj => ?_⟩
        · rcases e with e | e
          · have := hH.1; omega
          · have := hrl j e.symm; omega
        · rcases hr2 with h | ⟨j', h, h2⟩
          · exact hrl j (h ▸ hj)
          · rw [h] at hj; injection hj with hj; subst hj; have := hK.size; omega
    · obtain rfl : k = n := by omega
      have hfull : xss.take k = xss := List.take_of_length_le (by omega)
      rw [hfull] at hH
      go_wp2_with fail
      refine (pad_any key 0x5c A m c hm hl _ (hr.kept0 hK)).mono ?_
      rintro e w4 ⟨g4, rfl, hP, hg4, hk4⟩
      go_wp2_with fail
      refine (hsum_any w.heap.size g r (mpad key 0x36 ++ xss.flatten) (by rw [List.length_append, length_mpad]; omega) _ (hH.kept0 hk4)).mono ?_
      rintro e w5 ⟨r5, A5, c5, rfl, hO5, hk5, hr5⟩
      go_wp2_with fail
      have hRd : RdB w5 (some ⟨g4, 0, none⟩) (mpad key 0x5c) := .inr ⟨g4, 0, rfl, fun j _ => by rw [Nat.zero_add]; exact (hP.kept0 hk5).cell j⟩
      have hR2 := rdr_new2 (length_mpad key 0x5c) (length_sum (mpad key 0x36 ++ xss.flatten)) hRd hO5.rd (ca := 64) (cb := c5) 22
      refine (ssum_any [mpad key 0x5c, sum (mpad key 0x36 ++ xss.flatten)] 2 2 _ rfl (by omega) (by simp [length_mpad, length_sum]) _ hR2).mono ?_
      rintro e w6 ⟨r6, A6, c6, rfl, hO6, hk6, hr6⟩
      have z4 := hk4.size
      have z5 := hk5.size
      have z6 := hK.size
      go_wp2_with fail
      go_ret
      refine ⟨r6, A6, c6, rfl, ?_, (((hK.then0 hk4).then0 hk5).alloc _).then0 hk6, fun j hj => by have := hr6 j hj; simp at this; omega⟩
      have hO := hO6.mono (base' := w.heap.size) (by simp; omega)
      simpa [tag] using hO
end Go.Proofs.Ytbkmfoelaapkaaa
