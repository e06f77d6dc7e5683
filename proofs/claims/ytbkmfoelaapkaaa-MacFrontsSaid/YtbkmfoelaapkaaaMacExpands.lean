/- The statement MacExpands: its walk. -/
import Derived.Test.YtbkmfoelaapkaaaExpand
namespace Go.Proofs.Ytbkmfoelaapkaaa
open Go Go.RowKit Sha

theorem mexpand_neg (K I : Option Addr) (lk ck li ci : Nat) (n : Int) (hn : n < 0) (w : World) :
    Calls Try.prog 29 #[.slice K lk ck, .slice I li ci, .int .i64 n] w fun e w' => e = .returned (.tuple #[.slice none 0 0, .int .i64 1]) ∧ Kp0 w w' := by
  go_enter Try.func29, Try.ntmps29
  go_wp2
  go_ret2
  exact ⟨rfl, Kp.refl _ w⟩
theorem mexpand_big (K I : Option Addr) (lk ck li ci : Nat) (n : Int) (hn : 8160 < n) (w : World) :
    Calls Try.prog 29 #[.slice K lk ck, .slice I li ci, .int .i64 n] w fun e w' => e = .returned (.tuple #[.slice none 0 0, .int .i64 4]) ∧ Kp0 w w' := by
  go_enter Try.func29, Try.ntmps29
  go_wp2
  go_ret2
  exact ⟨rfl, Kp.refl _ w⟩
theorem asked_any (n : Int) (w : World) :
    Calls Try.prog 30 #[.int .i64 n] w fun e w' => e = .returned (.int .i64 (if n < 0 then 1 else if 8160 < n then 4 else 0)) ∧ w' = w := by
  by_cases h1 : n < 0
  · rw [if_pos h1]
    go_enter Try.func30, Try.ntmps30
    go_wp2
    go_ret
    exact ⟨rfl, rfl⟩
  · rw [if_neg h1]
    by_cases h2 : 8160 < n
    · rw [if_pos h2]
      go_enter Try.func30, Try.ntmps30
      go_wp2
      go_ret
      exact ⟨rfl, rfl⟩
    · rw [if_neg h2]
      go_enter Try.func30, Try.ntmps30
      go_wp2
      go_ret
      exact ⟨rfl, rfl⟩
theorem few2 {a b : List UInt8} (h : fewB [a, b] = true) : a.length ≤ 500 ∧ b.length ≤ 500 := by
  simpa [fewB] using h

set_option maxRecDepth 100000 in
set_option maxHeartbeats 2000000 in
theorem expands_walk (k i : List UInt8) (K I : Option Addr) (lk li ck ci : Nat) (n : Int) (hk : k.length = lk) (hi : i.length = li) (w : World) (rk : RdB w K k) (ri : RdB w I i) (hn : -9223372036854775808 ≤ n ∧ n ≤ 9223372036854775807) :
    Calls Try.prog 10 #[.slice K lk ck, .slice I li ci, .int .i64 n] w fun e w' => e = .returned (.bool true) ∧ Kp0 w w' := by
  cases hq : fewB [k, i] with
  | false =>
    have HQ := Lib.hid hq
    clear hq
    go_enter Try.func10, Try.ntmps10
    go_wp2_with (first | (go_at_call 23; refine (lives04 _).mono ?_; rintro e w1 ⟨rfl, hk1⟩) | (go_at_call 24; refine (few_any [k, i] 2 2 _ rfl (by omega) _ (rdr_new2 hk hi (rk.kept0 hk1) (ri.kept0 hk1) 22)).mono ?_; rintro e w2 ⟨rfl, rfl⟩; rw [HQ.out]; have hk2 := hk1.alloc (.cells #[.slice K lk ck, .slice I li ci] 22)))
    go_ret
    exact ⟨rfl, hk2.then0 (by assumption)⟩
  | true =>
    obtain ⟨h1, h2⟩ := few2 hq
    have HQ := Lib.hid hq
    clear hq
    by_cases hneg : n < 0
    · go_enter Try.func10, Try.ntmps10
      go_wp2_with (first | (go_at_call 23; refine (lives04 _).mono ?_; rintro e w1 ⟨rfl, hk1⟩) | (go_at_call 24; refine (few_any [k, i] 2 2 _ rfl (by omega) _ (rdr_new2 hk hi (rk.kept0 hk1) (ri.kept0 hk1) 22)).mono ?_; rintro e w2 ⟨rfl, he⟩; rw [HQ.out]; have hk2 : Kp0 w w2 := (by rw [he]; exact hk1.alloc (.cells #[.slice K lk ck, .slice I li ci] 22)); clear he hk1) | (go_at_call 29; refine (mexpand_neg _ _ _ _ _ _ n hneg _).mono ?_; rintro e w3 ⟨rfl, hk3⟩) | (go_at_call 30; refine (asked_any n _).mono ?_; rintro e w4 ⟨rfl, rfl⟩; rw [if_pos hneg]))
      go_ret
      exact ⟨rfl, hk2.then0 hk3⟩
    · by_cases hbig : 8160 < n
      · go_enter Try.func10, Try.ntmps10
        go_wp2_with (first | (go_at_call 23; refine (lives04 _).mono ?_; rintro e w1 ⟨rfl, hk1⟩) | (go_at_call 24; refine (few_any [k, i] 2 2 _ rfl (by omega) _ (rdr_new2 hk hi (rk.kept0 hk1) (ri.kept0 hk1) 22)).mono ?_; rintro e w2 ⟨rfl, he⟩; rw [HQ.out]; have hk2 : Kp0 w w2 := (by rw [he]; exact hk1.alloc (.cells #[.slice K lk ck, .slice I li ci] 22)); clear he hk1) | (go_at_call 29; refine (mexpand_big _ _ _ _ _ _ n hbig _).mono ?_; rintro e w3 ⟨rfl, hk3⟩) | (go_at_call 30; refine (asked_any n _).mono ?_; rintro e w4 ⟨rfl, rfl⟩; rw [if_neg (by omega), if_pos hbig]))
        go_ret
        exact ⟨rfl, hk2.then0 hk3⟩
      · by_cases h300 : 300 < n
        · go_enter Try.func10, Try.ntmps10
          go_wp2_with (first | (go_at_call 23; refine (lives04 _).mono ?_; rintro e w1 ⟨rfl, hk1⟩) | (go_at_call 24; refine (few_any [k, i] 2 2 _ rfl (by omega) _ (rdr_new2 hk hi (rk.kept0 hk1) (ri.kept0 hk1) 22)).mono ?_; rintro e w2 ⟨rfl, he⟩; rw [HQ.out]; have hk2 : Kp0 w w2 := (by rw [he]; exact hk1.alloc (.cells #[.slice K lk ck, .slice I li ci] 22)); clear he hk1) | (go_at_call 29; refine (mexpand_any k i K I lk ck li ci 300 hk (by omega) hi (by omega) (by omega) _ (rk.kept0 hk2) (ri.kept0 hk2)).mono ?_; rintro e w3 ⟨A3, rfl, hR3, hk3⟩) | (go_at_call 30; refine (asked_any 300 _).mono ?_; rintro e w4 ⟨rfl, he4⟩; rw [if_neg (by omega), if_neg (by omega)]))
          have hK3 : Kp0 w w3.drew := (hk2.then0 hk3).drew
          have hR3' : RdB w3.drew A3 (expand k i 300) := hR3
          subst he4
          have hC3 : ∀ u, (convert 22 9 (.slice A3 300 300)).run Try.prog (later w4.drew u) = .ok (.string (bstr (expand k i 300))) (later w4.drew u) := fun u => run_conv 22 9 5 Try.underlying22 Try.underlying5 Try.underlying9 _ A3 (expand k i 300) 300 300 (length_expand _ _ _) (hR3'.kept0 (later_kp _ u))
          have rk3 := rk.kept0 hK3
          have ri3 := ri.kept0 hK3
          clear hR3 hR3' hk2 hk3
          refine wp_region_kp 10 (.takes [0, 1, 2, 3, 4, 5, 6, 7] (.eff 8 (.takes [9] (.stop)))) (by kernel_rfl) (by kernel_rfl) ?_
          simp only [Plan.wp, pick, consO, List.getElem?_toArray, List.getElem?_cons_zero, List.getElem?_cons_succ, List.drop_succ_cons, List.drop_zero]
          generalize w4.drew = W at *
          open Go.BigFrame in
          repeat (go_big_quiet_step (fail))
          refine wpQuiet_nil ?_
          clear hC3
          go_wp2_with fail
          refine (rexpand_any k i K I lk ck li ci 300 hk (by omega) hi (by omega) (by omega) _ rk3 ri3).mono ?_
          rintro e w5 ⟨A5, c5, rfl, hR5, hk5⟩
          go_wp2_with fail
          refine ⟨Later.of hk5, ?_⟩
          have hC5 : ∀ u, (convert 22 9 (.slice A5 300 c5)).run Try.prog (later w5 u) = .ok (.string (bstr (expand k i 300))) (later w5 u) := fun u => run_conv 22 9 5 Try.underlying22 Try.underlying5 Try.underlying9 _ A5 (expand k i 300) 300 c5 (length_expand _ _ _) (hR5.kept0 (later_kp _ u))
          open Go.BigFrame in
          repeat (go_big_quiet_step (fail))
          refine wpQuiet_nil ?_
          go_wp2_with fail
          go_ret
          exact ⟨rfl, hK3.then0 hk5⟩
        · obtain ⟨m, rfl⟩ : ∃ m : Nat, n = m := ⟨n.toNat, by omega⟩
          have hm : m ≤ 300 := by omega
          go_enter Try.func10, Try.ntmps10
          go_wp2_with (first | (go_at_call 23; refine (lives04 _).mono ?_; rintro e w1 ⟨rfl, hk1⟩) | (go_at_call 24; refine (few_any [k, i] 2 2 _ rfl (by omega) _ (rdr_new2 hk hi (rk.kept0 hk1) (ri.kept0 hk1) 22)).mono ?_; rintro e w2 ⟨rfl, he⟩; rw [HQ.out]; have hk2 : Kp0 w w2 := (by rw [he]; exact hk1.alloc (.cells #[.slice K lk ck, .slice I li ci] 22)); clear he hk1) | (go_at_call 29; refine (mexpand_any k i K I lk ck li ci m hk (by omega) hi (by omega) (by omega) _ (rk.kept0 hk2) (ri.kept0 hk2)).mono ?_; rintro e w3 ⟨A3, rfl, hR3, hk3⟩) | (go_at_call 30; refine (asked_any (m : Int) _).mono ?_; rintro e w4 ⟨rfl, he4⟩; rw [if_neg (by omega), if_neg (by omega)]))
          have hK3 : Kp0 w w3.drew := (hk2.then0 hk3).drew
          have hR3' : RdB w3.drew A3 (expand k i m) := hR3
          subst he4
          have hC3 : ∀ u, (convert 22 9 (.slice A3 m m)).run Try.prog (later w4.drew u) = .ok (.string (bstr (expand k i m))) (later w4.drew u) := fun u => run_conv 22 9 5 Try.underlying22 Try.underlying5 Try.underlying9 _ A3 (expand k i m) m m (length_expand _ _ _) (hR3'.kept0 (later_kp _ u))
          have rk3 := rk.kept0 hK3
          have ri3 := ri.kept0 hK3
          clear hR3 hR3' hk2 hk3
          refine wp_region_kp 10 (.takes [0, 1, 2, 3, 4, 5, 6, 7] (.eff 8 (.takes [9] (.stop)))) (by kernel_rfl) (by kernel_rfl) ?_
          simp only [Plan.wp, pick, consO, List.getElem?_toArray, List.getElem?_cons_zero, List.getElem?_cons_succ, List.drop_succ_cons, List.drop_zero]
          generalize w4.drew = W at *
          open Go.BigFrame in
          repeat (go_big_quiet_step (fail))
          refine wpQuiet_nil ?_
          clear hC3
          go_wp2_with fail
          refine (rexpand_any k i K I lk ck li ci m hk (by omega) hi (by omega) (by omega) _ rk3 ri3).mono ?_
          rintro e w5 ⟨A5, c5, rfl, hR5, hk5⟩
          go_wp2_with fail
          refine ⟨Later.of hk5, ?_⟩
          have hC5 : ∀ u, (convert 22 9 (.slice A5 m c5)).run Try.prog (later w5 u) = .ok (.string (bstr (expand k i m))) (later w5 u) := fun u => run_conv 22 9 5 Try.underlying22 Try.underlying5 Try.underlying9 _ A5 (expand k i m) m c5 (length_expand _ _ _) (hR5.kept0 (later_kp _ u))
          open Go.BigFrame in
          repeat (go_big_quiet_step (fail))
          refine wpQuiet_nil ?_
          go_wp2_with fail
          go_ret
          exact ⟨rfl, hK3.then0 hk5⟩
end Go.Proofs.Ytbkmfoelaapkaaa
