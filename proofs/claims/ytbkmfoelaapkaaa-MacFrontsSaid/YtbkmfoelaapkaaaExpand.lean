/- Chapter 4: Expand, in the program and in the document's answer. -/
import Derived.Test.YtbkmfoelaapkaaaMacTags
namespace Go.Proofs.Ytbkmfoelaapkaaa
open Go Go.RowKit Sha

/-! ### Plain: keys out of keys -/
def expT (key info : List UInt8) : Nat → List UInt8
  | 0 => []
  | i + 1 => tag key (expT key info i ++ (info ++ [UInt8.ofNat (i + 1)]))
def expO (key info : List UInt8) : Nat → List UInt8
  | 0 => []
  | i + 1 => expO key info i ++ expT key info (i + 1)
def expand (key info : List UInt8) (n : Nat) : List UInt8 := (expO key info ((n + 31) / 32)).take n
theorem length_expT (key info : List UInt8) (i : Nat) : (expT key info (i + 1)).length = 32 := length_tag _ _
theorem expT_le (key info : List UInt8) (i : Nat) : (expT key info i).length ≤ 32 := by
  cases i with
  | zero => simp [expT]
  | succ i => rw [length_expT]; decide
theorem length_expO (key info : List UInt8) (i : Nat) : (expO key info i).length = 32 * i := by
  induction i with
  | zero => rfl
  | succ i ih => rw [expO, List.length_append, ih, length_expT]; omega
theorem length_expand (key info : List UInt8) (n : Nat) : (expand key info n).length = n := by
  rw [expand, List.length_take, length_expO]; omega
theorem expO_take (key info : List UInt8) (r d : Nat) : (expO key info (r + d)).take (32 * r) = expO key info r := by
  induction d with
  | zero => rw [List.take_of_length_le (by rw [length_expO]; omega)]; rfl
  | succ d ih => rw [← Nat.add_assoc, expO, List.take_append_of_le_length (by rw [length_expO]; omega), ih]
theorem expand_front (key info : List UInt8) (m n : Nat) (h : m ≤ n) : (expand key info n).take m = expand key info m := by
  unfold expand
  rw [List.take_take, Nat.min_eq_left h]
  obtain ⟨d, hd⟩ : ∃ d, (n + 31) / 32 = (m + 31) / 32 + d := ⟨(n + 31) / 32 - (m + 31) / 32, by omega⟩
  rw [hd]
  conv => rhs; rw [← expO_take key info ((m + 31) / 32) d]
  rw [List.take_take, Nat.min_eq_left (by omega)]
theorem u8_next (k : Nat) : (((UInt8.ofNat (k + 1)).toNat : Int) + 1) % 256 = ((UInt8.ofNat (k + 1 + 1)).toNat : Int) := by
  rw [UInt8.toNat_ofNat', UInt8.toNat_ofNat']; omega
theorem rd_one {w : World} (x : UInt8) : RdB (w.alloc (.cells #[.int .u8 (x.toNat : Int)] 5)) (some ⟨w.heap.size, 0, none⟩) [x] := rd_new w 5 [.int .u8 (x.toNat : Int)]
theorem Rd.take {w : World} {A : Option Addr} {xs : List UInt8} (h : RdB w A xs) (n : Nat) : RdB w A (xs.take n) := by
  rcases Nat.eq_zero_or_pos (bv (xs.take n)).length with h0 | h0
  · exact .inl (List.eq_nil_of_length_eq_zero h0)
  · obtain ⟨b, o, rfl, _, hc⟩ := Rd.addr h (by simp [bv] at h0 ⊢; omega)
    refine .inr ⟨b, o, rfl, fun j hj => ?_⟩
    have hj' : j < n ∧ j < xs.length := by simp [bv] at hj; omega
    have e : (bv (xs.take n))[j]? = (bv xs)[j]? := by simp [bv, List.getElem?_take, hj'.1]
    rw [e]
    exact (hc j _ (bv_get xs j hj'.2)).trans (bv_get xs j hj'.2).symm

set_option maxRecDepth 100000 in
set_option maxHeartbeats 1000000 in
theorem mexpand_own (key info : List UInt8) (K I : Option Addr) (lk ck li ci n : Nat) (hk : key.length = lk) (hl : lk ≤ 100000) (hi : info.length = li) (hl2 : li ≤ 100000) (hn : n ≤ 8160) (w : World) (rk : RdB w K key) (ri : RdB w I info) :
    Calls Try.prog 29 #[.slice K lk ck, .slice I li ci, .int .i64 (n : Int)] w fun e w' => ∃ A', e = .returned (.tuple #[.slice A' n n, .int .i64 0]) ∧ RdB w' A' (expand key info n) ∧ Kp0 w w' ∧ ∀ b o, A' = some ⟨b, o, none⟩ → 0 < n → w.heap.size ≤ b := by
  obtain ⟨r, hr⟩ : ∃ r, r = (n + 31) / 32 := ⟨_, rfl⟩
  have hr1 : 32 * r < n + 32 := by omega
  have hr2 : n ≤ 32 * r := by omega
  have HR := Lib.hid hr
  clear hr
  go_enter Try.func29, Try.ntmps29
  go_wp2
  go_loopg [8, 9, 10] r (fun kq v8 v9 v10 wr => ∃ (k : Nat) (A : Option Addr) (c : Nat) (q : Option Nat) (L : Option Addr) (cl : Nat), k ≤ r ∧ kq = r - k ∧ v8 = .slice A (32 * k) c ∧ v9 = .slice L (expT key info k).length cl ∧ v10 = .int .u8 ((UInt8.ofNat (k + 1)).toNat : Int) ∧ Own wr w.heap.size 5 q A (32 * k) c (bv (expO key info k)) ∧ RdB wr L (expT key info k) ∧ ((k = 0 ∧ A = none ∧ c = 0) ∨ ∃ g o, A = some ⟨g, o, none⟩) ∧ (∀ j, q = some j → w.heap.size ≤ j ∧ j < wr.heap.size) ∧ Kp0 w wr)
  case atStart => exact ⟨0, none, 0, none, none, 0, by omega, rfl, rfl, rfl, rfl, Own.nil _ _ _ _, .inl rfl, .inl ⟨rfl, rfl, rfl⟩, (fun j h => by cases h), Kp.refl _ w⟩
  case round =>
    obtain ⟨k, A, c, q, L, cl, hkr, rfl, rfl, rfl, rfl, hO, hL, hA, hq, hK⟩ := hrel
    by_cases hlt : k < r
    · clear hA
      have hTl := expT_le key info k
      have hT1 : expT key info (k + 1) = tag key (expT key info k ++ (info ++ [UInt8.ofNat (k + 1)])) := rfl
      have hO1 : expO key info (k + 1) = expO key info k ++ expT key info (k + 1) := rfl
      have hnx := u8_next k
      rw [hT1] at hO1
      generalize expT key info k = T at *
      generalize UInt8.ofNat (k + 1) = y at *
      have HT := Lib.hid hT1
      have HO := Lib.hid hO1
      have HN := Lib.hid hnx
      clear hT1 hO1 hnx
      generalize hTL : T.length = tl at *
      go_wp2_with fail
      have h1 := rd_one (w := wr) y
      have hRR := rdr_new3 (ca := cl) (cb := ci) (cd := 1) hTL hi (rfl : [y].length = 1) (hL.alloc (.cells #[.int .u8 (y.toNat : Int)] 5)) ((ri.kept0 hK).alloc (.cells #[.int .u8 (y.toNat : Int)] 5)) h1 22
      rw [show (wr.alloc (.cells #[.int .u8 (y.toNat : Int)] 5)).heap.size = wr.heap.size + 1 by simp] at hRR
      have hk2 : Kp0 wr ((wr.alloc (.cells #[.int .u8 (y.toNat : Int)] 5)).alloc (.cells #[.slice L tl cl, .slice I li ci, .slice (some ⟨wr.heap.size, 0, none⟩) 1 1] 22)) := ((Kp.refl _ wr).alloc _).alloc _
      generalize (wr.alloc (.cells #[.int .u8 (y.toNat : Int)] 5)).alloc (.cells #[.slice L tl cl, .slice I li ci, .slice (some ⟨wr.heap.size, 0, none⟩) 1 1] 22) = w2 at hRR hk2 ⊢
      refine (tag_any key [T, info, [y]] K _ lk ck 3 3 hk (by omega) rfl (by omega) (by simp; omega) _ (rk.kept0 (hK.then0 hk2)) hRR).mono ?_
      rintro e w3 ⟨r3, A3, c3, rfl, hT3, hk3, _⟩
      rw [show [T, info, [y]].flatten = T ++ (info ++ [y]) by simp] at hT3
      have hTl3 := length_tag key (T ++ (info ++ [y]))
      generalize tag key (T ++ (info ++ [y])) = T3 at *
      have hk3' := hk2.then0 hk3
      have hO3 := hO.kept0 hk3'
      have hK3 := hK.then0 hk3'
      have hT3r : RdB w3 A3 T3 := hT3.rd
      have zr := hk3'.size
      have hT3b : ∀ b0 o0, A3 = some ⟨b0, o0, none⟩ → wr.heap.size ≤ b0 := by
        intro b0 o0 e
        obtain ⟨g5, o5, hr5, hA5, hg5, _⟩ := hT3.lt (by decide)
        have := hk2.size
        rw [hA5] at e; injection e with e; injection e with e; omega
      clear hRR hk2 hk3 hk3' hO hK hL h1 hT3
      go_wp2_with (at_builtin; refine wpl_append _ rfl (.tmp 30) (.tmp 31) 22 rfl 5 (.int .u8 0) 1 Try.underlying22 (by kernel_rfl) rfl w.heap.size q A (32 * k) c (bv (expO key info k)) rfl hO3 A3 32 c3 (bv T3) rfl ((length_bv T3).trans hTl3) hT3r (one_bv _) ?h1 ?h2 ?h3 ?_)
      case h1 => exact hK3.size
      case h2 => simp only [maxLen]; omega
      case h3 => omega
      intro A4 c4 r4 w4 hO4 hk4 hr4
      have hT4 : RdB w4 A3 T3 := hT3r.kept hk4 (fun b0 o0 e _ h => by have := hT3b b0 o0 e; have := hq b0 h.symm; omega)
      go_wp2
      go_roundg (r - (k + 1))
      case measure => omega
      case rel =>
        obtain ⟨g4, o4, _, hA4, _, _⟩ := hO4.lt (by omega)
        refine ⟨k + 1, A4, c4, r4, A3, c3, by omega, rfl, rfl, by rw [HT.out, hTl3], val_int HN.out, ?_, by rw [HT.out]; exact hT4, .inr ⟨g4, o4, hA4⟩, ?_, hK3.past hk4 (fun i e => (hq i e.symm).1)⟩
        · rw [HO.out, bv_append]
          exact hO4
        · intro j hj
          have z4 := hk4.size
          rcases hr4 with h | ⟨j', h, h2, h3⟩
          · have := hq j (h ▸ hj); omega
          · rw [h] at hj; injection hj with hj; subst hj; have := hK3.size; omega
    · obtain rfl : k = r := by omega
      have hc : 32 * k ≤ c := hO.2.1
      have hcm : c ≤ maxLen := hO.2.2.1
      unfold maxLen at hcm
      have hex : RdB wr A (expand key info n) := by
        unfold expand
        rw [← HR.out]
        exact Rd.take hO.rd n
      rcases hA with ⟨rfl, rfl, rfl⟩ | ⟨g, o, rfl⟩
      · obtain rfl : n = 0 := by omega
        go_wp2
        go_ret2
        exact ⟨_, rfl, .inl (by simp [expand, bv]), hK⟩
      · go_wp2
        go_ret2
        refine ⟨_, rfl, hex, hK, fun b1 o1 e1 h1 => ?_⟩
        obtain ⟨g5, o5, _, e5, h5, _⟩ := hO.lt (by omega)
        rw [e1] at e5
        injection e5 with e5
        injection e5 with e5
        omega
theorem mexpand_any (key info : List UInt8) (K I : Option Addr) (lk ck li ci n : Nat) (hk : key.length = lk) (hl : lk ≤ 100000) (hi : info.length = li) (hl2 : li ≤ 100000) (hn : n ≤ 8160) (w : World) (rk : RdB w K key) (ri : RdB w I info) :
    Calls Try.prog 29 #[.slice K lk ck, .slice I li ci, .int .i64 (n : Int)] w fun e w' => ∃ A', e = .returned (.tuple #[.slice A' n n, .int .i64 0]) ∧ RdB w' A' (expand key info n) ∧ Kp0 w w' := by
  refine (mexpand_own key info K I lk ck li ci n hk hl hi hl2 hn w rk ri).mono ?_
  rintro e w' ⟨A', h1, h2, h3, _⟩
  exact ⟨A', h1, h2, h3⟩

set_option maxRecDepth 100000 in
set_option maxHeartbeats 1000000 in
theorem rexpand_any (key info : List UInt8) (K I : Option Addr) (lk ck li ci n : Nat) (hk : key.length = lk) (hl : lk ≤ 100000) (hi : info.length = li) (hl2 : li ≤ 90000) (hn : n ≤ 8160) (w : World) (rk : RdB w K key) (ri : RdB w I info) :
    Calls Try.prog 31 #[.slice K lk ck, .slice I li ci, .int .i64 (n : Int)] w fun e w' => ∃ A' c', e = .returned (.slice A' n c') ∧ RdB w' A' (expand key info n) ∧ Kp0 w w' := by
  obtain ⟨r, hr⟩ : ∃ r, r = (n + 31) / 32 := ⟨_, rfl⟩
  have hr1 : 32 * r < n + 32 := by omega
  have hr2 : n ≤ 32 * r := by omega
  have HR := Lib.hid hr
  clear hr
  go_enter Try.func31, Try.ntmps31
  go_wp2
  go_loopg [7, 8, 9] r (fun kq v7 v8 v9 wr => ∃ (k g o c : Nat) (q : Option Nat) (L : Option Addr) (cl : Nat), k ≤ r ∧ kq = r - k ∧ v7 = .slice (some ⟨g, o, none⟩) (32 * k) c ∧ v8 = .slice L (expT key info k).length cl ∧ v9 = .int .i64 ((k : Int) + 1) ∧ Own wr w.heap.size 5 q (some ⟨g, o, none⟩) (32 * k) c (bv (expO key info k)) ∧ RdB wr L (expT key info k) ∧ (∀ j, q = some j → w.heap.size ≤ j ∧ j < wr.heap.size) ∧ Kp0 w wr)
  case atStart => exact ⟨0, _, _, 0, none, _, 0, by omega, rfl, rfl, rfl, rfl, Own.empty _ _ _ _ _, .inl rfl, (fun j h => by cases h), ((Kp.refl _ w).alloc _).alloc _⟩
  case round =>
    obtain ⟨k, g, o, c, q, L, cl, hkr, rfl, rfl, rfl, rfl, hO, hL, hq, hK⟩ := hrel
    by_cases hlt : k < r
    · have hTl := expT_le key info k
      have hT1 : expT key info (k + 1) = tag key (expT key info k ++ (info ++ [UInt8.ofNat (k + 1)])) := rfl
      have hO1 : expO key info (k + 1) = expO key info k ++ expT key info (k + 1) := rfl
      have hy : Value.int .u8 ((k : Int) + 1) = .int .u8 ((UInt8.ofNat (k + 1)).toNat : Int) := val_int (by rw [UInt8.toNat_ofNat']; omega)
      have HY := Lib.hid hy
      clear hy
      rw [hT1] at hO1
      generalize expT key info k = T at *
      generalize UInt8.ofNat (k + 1) = y at *
      have HT := Lib.hid hT1
      have HO := Lib.hid hO1
      clear hT1 hO1
      generalize hTL : T.length = tl at *
      go_wp2_with fail
      rw [HY.out]
      have h1 := rd_one (w := wr) y
      have hRR := rdr_new3 (ca := cl) (cb := ci) (cd := 1) hTL hi (rfl : [y].length = 1) (hL.alloc (.cells #[.int .u8 (y.toNat : Int)] 5)) ((ri.kept0 hK).alloc (.cells #[.int .u8 (y.toNat : Int)] 5)) h1 22
      rw [show (wr.alloc (.cells #[.int .u8 (y.toNat : Int)] 5)).heap.size = wr.heap.size + 1 by simp] at hRR
      have hk2 : Kp0 wr ((wr.alloc (.cells #[.int .u8 (y.toNat : Int)] 5)).alloc (.cells #[.slice L tl cl, .slice I li ci, .slice (some ⟨wr.heap.size, 0, none⟩) 1 1] 22)) := ((Kp.refl _ wr).alloc _).alloc _
      generalize (wr.alloc (.cells #[.int .u8 (y.toNat : Int)] 5)).alloc (.cells #[.slice L tl cl, .slice I li ci, .slice (some ⟨wr.heap.size, 0, none⟩) 1 1] 22) = w2 at hRR hk2 ⊢
      refine (join_any [T, info, [y]] 3 3 _ rfl (by omega) (by simp; omega) _ hRR).mono ?_
      rintro e w3 ⟨r3, A3, c3, rfl, hJ, hk3, _⟩
      have hJe : [T, info, [y]].flatten = T ++ (info ++ [y]) := by simp
      have hJl : [T, info, [y]].flatten.length = tl + (li + 1) := by rw [hJe, List.length_append, List.length_append, hTL, hi]; rfl
      rw [hJl, hJe] at hJ
      rw [hJl]
      rw [hJe] at hJl
      generalize T ++ (info ++ [y]) = J at *
      have hk3' := hk2.then0 hk3
      go_wp2_with fail
      refine (rtag_any key J K A3 lk ck (tl + (li + 1)) c3 hk (by omega) hJl (by omega) _ (rk.kept0 (hK.then0 hk3')) hJ.rd).mono ?_
      rintro e w4 ⟨r4, A4, c4, rfl, hT4, hk4⟩
      have hTl4 := length_tag key J
      generalize tag key J = T4 at *
      have hk4' := hk3'.then0 hk4
      have hO4 := hO.kept0 hk4'
      have hK4 := hK.then0 hk4'
      have hT4r : RdB w4 A4 T4 := hT4.rd
      have zr := hk4'.size
      have hT4b : ∀ b0 o0, A4 = some ⟨b0, o0, none⟩ → wr.heap.size ≤ b0 := by
        intro b0 o0 e
        obtain ⟨g5, o5, hr5, hA5, hg5, _⟩ := hT4.lt (by decide)
        have := hk3'.size
        rw [hA5] at e; injection e with e; injection e with e; omega
      clear hRR hk2 hk3 hk3' hO hK hL h1 hJ hk4 hk4'
      go_wp2_with (at_builtin; refine wpl_append _ rfl (.tmp 27) (.tmp 28) 22 rfl 5 (.int .u8 0) 1 Try.underlying22 (by kernel_rfl) rfl w.heap.size q _ (32 * k) c (bv (expO key info k)) rfl hO4 A4 32 c4 (bv T4) rfl ((length_bv T4).trans hTl4) hT4r (one_bv _) ?h1 ?h2 ?h3 ?_)
      case h1 => exact hK4.size
      case h2 => simp only [maxLen]; omega
      case h3 => omega
      intro A5 c5 r5 w5 hO5 hk5 hr5
      have hT5 : RdB w5 A4 T4 := hT4r.kept hk5 (fun b0 o0 e _ h => by have := hT4b b0 o0 e; have := hq b0 h.symm; omega)
      obtain ⟨g5, o5, _, rfl, _, _⟩ := hO5.lt (by omega)
      go_wp2
      go_roundg (r - (k + 1))
      case measure => omega
      case rel =>
        refine ⟨k + 1, g5, o5, c5, r5, A4, c4, by omega, rfl, rfl, by rw [HT.out, hTl4], by go_num, ?_, by rw [HT.out]; exact hT5, ?_, hK4.past hk5 (fun i e => (hq i e.symm).1)⟩
        · rw [HO.out, bv_append]
          exact hO5
        · intro j hj
          have z5 := hk5.size
          rcases hr5 with h | ⟨j', h, h2, h3⟩
          · have := hq j (h ▸ hj); omega
          · rw [h] at hj; injection hj with hj; subst hj; have := hK4.size; omega
    · obtain rfl : k = r := by omega
      have hc : 32 * k ≤ c := hO.2.1
      have hcm : c ≤ maxLen := hO.2.2.1
      unfold maxLen at hcm
      have hex : RdB wr (some ⟨g, o, none⟩) (expand key info n) := by
        unfold expand
        rw [← HR.out]
        exact Rd.take hO.rd n
      go_wp2
      go_ret
      exact ⟨_, _, rfl, hex, hK⟩
end Go.Proofs.Ytbkmfoelaapkaaa
