/- The laws of chapter 3: what their Go functions answer. -/
import Derived.Test.YtbkmfoelaapkaaaIn
namespace Go.Proofs.Ytbkmfoelaapkaaa
open Go Go.RowKit Sha

theorem sum_one (m : List UInt8) (h : (m ++ tail m.length).length = 64) : sum m = out (comp H0 (m ++ tail m.length)) := by
  unfold sum
  rw [absorb_long _ _ (by omega), absorb_short _ _ (by rw [List.length_drop]; omega), List.take_of_length_le (by omega)]
theorem sum_nil : (sum []).getD 0 0 = 0xe3 ∧ (sum []).getD 1 0 = 0xb0 := by
  rw [sum_one [] (by decide)]
  decide +kernel

set_option maxHeartbeats 1000000 in
theorem lives03 (w : World) : Calls Try.prog 13 #[] w fun e w' => e = .returned (.bool true) ∧ Kp0 w w' := by
  go_enter Try.func13, Try.ntmps13
  go_wp2_with (go_at_call 14; refine (ssum_any [] 0 0 none rfl (by omega) (by simp) _ ⟨[], rfl, .inl rfl, fun j h => absurd h (by simp)⟩).mono ?_; rintro e w1 ⟨r1, A1, c1, rfl, hO1, hk1, _⟩; obtain ⟨b1, o1, _, rfl, _, _⟩ := hO1.lt (by decide); have h0 : w1.cell? ⟨b1, o1, none⟩ = some (.int .u8 227) := at_byte hO1.rd 0 0xe3 (by rw [length_sum]; decide) sum_nil.1; have h1 : w1.cell? ⟨b1, o1 + 1, none⟩ = some (.int .u8 176) := at_byte hO1.rd 1 0xb0 (by rw [length_sum]; decide) sum_nil.2)
  go_ret
  exact ⟨rfl, hk1⟩

set_option maxRecDepth 100000 in
set_option maxHeartbeats 1000000 in
theorem copies_big (la lb lc ca cb cc : Nat) (A B C : Option Addr) (w : World) (hs : 3000 < la ∨ 3000 < lb ∨ 3000 < lc) :
    Calls Try.prog 5 #[.slice A la ca, .slice B lb cb, .slice C lc cc] w fun e w' => e = .returned (.bool true) ∧ Kp0 w w' := by
  go_enter Try.func5, Try.ntmps5
  go_wp2_with (first | (refine wpl_gtr_any (.tmp 19) _ _ _ rfl _ _ rfl rfl rfl ?_; intro b; cases b) | (go_at_call 13; refine (lives03 _).mono ?_; rintro e w1 ⟨rfl, hk1⟩))
  all_goals (first | (go_ret; exact ⟨rfl, Kp.then0 (by assumption) (by assumption)⟩) | omega)

set_option maxRecDepth 100000 in
set_option maxHeartbeats 2000000 in
theorem copies_small (a b c : List UInt8) (la lb lc ca cb cc : Nat) (A B C : Option Addr) (w : World) (ha : a.length = la) (hb : b.length = lb) (hc : c.length = lc) (ra : RdB w A a) (rb : RdB w B b) (rc : RdB w C c) (h1 : la ≤ 3000) (h2 : lb ≤ 3000) (h3 : lc ≤ 3000) :
    Calls Try.prog 5 #[.slice A la ca, .slice B lb cb, .slice C lc cc] w fun e w' => e = .returned (.bool true) ∧ Kp0 w w' := by
  go_enter Try.func5, Try.ntmps5
  go_wp2_with (go_at_call 13; refine (lives03 _).mono ?_; rintro e w1 ⟨rfl, hk1⟩)
  all_goals (try (go_ret; exact ⟨rfl, Kp.then0 (by assumption) (by assumption)⟩))
  refine (new_any w1.heap.size _ (Nat.le_refl _)).mono ?_
  rintro e w2 ⟨g, rfl, hg, hH2, hk2⟩
  go_wp2_with fail
  refine (add_any w1.heap.size g none [] A la ca a ha (by simp; omega) _ hk2.size hH2 ((ra.kept0 hk1).kept0 hk2)).mono ?_
  rintro e w3 ⟨rfl, r3, hH3, hr3, hk3⟩
  have hr3' : ∀ k, r3 = some k → w1.heap.size ≤ k := by
    intro k hk
    rcases hr3 with h | ⟨j, h, h2⟩
    · rw [h] at hk; cases hk
    · rw [h] at hk; injection hk with hk; have := hk2.size; omega
  go_wp2_with fail
  refine (copy_any w1.heap.size g r3 a _ hH3).mono ?_
  rintro e w4 ⟨g2, r4, rfl, hH4, hk4, hr4⟩
  have hg3 := hH3.lt
  have hs3 := hH3.2.1
  have hg4 := hH4.1
  have hg4' := hH4.lt
  have hs4 := hH4.2.1
  have z1 := hk1.size
  have z2 := hk2.size
  have z3 := hk3.size
  have z4 := hk4.size
  have hH3' := hH3.kept0 hk4
  have hK4 : Kp0 w w4 := (((hk1.then0 hk2).past hk3 (by
    rintro i (e | e)
    · omega
    · cases e)).then0 hk4)
  go_wp2_with fail
  refine (add_any w1.heap.size g r3 a B lb cb b hb (by omega) _ (by omega) hH3' (rb.kept0 hK4)).mono ?_
  rintro e w5 ⟨rfl, r5, hH5, hr5, hk5⟩
  have z5 := hk5.size
  have hH4' : HashAt w5 w3.heap.size g2 r4 a := hH4.kept hk5 (by
    rintro (e | e)
    · omega
    · have := hs3 _ e.symm; omega) (by
    rintro k hk (e | e)
    · have := hr4 k hk; omega
    · have := hs3 _ e.symm; have := hr4 k hk; omega)
  have hK5 : Kp0 w w5 := hK4.past hk5 (by
    rintro i (e | e)
    · omega
    · have := hr3' i e.symm; omega)
  go_wp2_with fail
  refine (add_any w3.heap.size g2 r4 a C lc cc c hc (by omega) _ (by omega) hH4' (rc.kept0 hK5)).mono ?_
  rintro e w6 ⟨rfl, r6, hH6, hr6, hk6⟩
  have z6 := hk6.size
  have hH5' : HashAt w6 w1.heap.size g r5 (a ++ b) := hH5.kept hk6 (by
    rintro (e | e)
    · omega
    · have := hr4 _ e.symm; omega) (by
    intro k hk
    have hk' : k < w3.heap.size ∨ w4.heap.size ≤ k := by
      rcases hr5 with h | ⟨j, h, h2⟩
      · exact .inl (hs3 k (h ▸ hk)).2
      · rw [h] at hk; injection hk with hk; exact .inr (by omega)
    rintro (e | e)
    · omega
    · have := hr4 _ e.symm; have := (hs4 _ e.symm).2; omega)
  have hK6 : Kp0 w w6 := hK5.past hk6 (by
    rintro i (e | e)
    · omega
    · have := hr4 _ e.symm; omega)
  clear hH2 hH3 hH3' hH4 hH4' hH5 hk1 hk2 hk3 hk4 hk5 hk6 hK4 hK5 hr3' hr4 hr5 hr6 hs3 hs4 hr3
  have hg6 : w.heap.size ≤ w3.heap.size := by omega
  have hg7 : w.heap.size ≤ w1.heap.size := by omega
  clear z1 z2 z3 z4 z5 z6
  have hD5 : HashAt w6.drew w1.heap.size g r5 (a ++ b) := hH5'.kept0 (Kp.refl (fun _ => False) w6).drew
  have hD6 : HashAt w6.drew w3.heap.size g2 r6 (a ++ c) := hH6.kept0 (Kp.refl (fun _ => False) w6).drew
  have hKD : Kp0 w w6.drew := hK6.drew
  clear hH5' hH6 hK6
  go_wp2_with fail
  refine wp_region_kp 18 (.takes [0, 3, 4] (.fork 1 5 (.takes [2] (.eff 5 (.eff 6 (.takes [7, 8, 9, 10, 13, 14] (.fork 11 15 (.takes [12] (.eff 15 (.eff 16 (.takes [17] (.stop))))) (.eff 11 (.takes [12] (.eff 16 (.takes [17] (.stop)))))))))) (.eff 1 (.takes [2] (.eff 6 (.takes [7, 8, 9, 10, 13, 14] (.fork 11 15 (.takes [12] (.eff 15 (.eff 16 (.takes [17] (.stop))))) (.eff 11 (.takes [12] (.eff 16 (.takes [17] (.stop)))))))))))) (by kernel_rfl) (by kernel_rfl) ?_
  simp only [Plan.wp, pick, consO, List.getElem?_toArray, List.getElem?_cons_zero, List.getElem?_cons_succ, List.drop_succ_cons, List.drop_zero]
  generalize w6.drew = W at *
  open Go.BigFrame in
  repeat (go_big_quiet_step (fail))
  refine wpQuiet_nil ?_
  refine ⟨?one, ?two⟩
  case one =>
    go_wp2_with fail
    refine (hsum_any w1.heap.size g r5 (a ++ b) (by rw [List.length_append]; omega) _ hD5).mono ?_
    rintro e w7 ⟨r7, A7, c7, rfl, hO7, hk7, hr7⟩
    go_wp2_with fail
    refine ⟨Later.of hk7, ?_⟩
    have hC7 : ∀ u, (convert 22 9 (.slice A7 32 c7)).run Try.prog (later w7 u) = .ok (.string (bstr (sum (a ++ b)))) (later w7 u) := fun u => run_conv 22 9 5 Try.underlying22 Try.underlying5 Try.underlying9 _ A7 (sum (a ++ b)) 32 c7 (length_sum _) (hO7.rd.kept0 (later_kp _ u))
    open Go.BigFrame in
    repeat (go_big_quiet_step (fail))
    refine wpQuiet_nil ?_

    have hK7 := hKD.then0 hk7
    clear hC7 hO7 hr7

    go_wp2_with fail
    refine ⟨Later.of ((Kp.refl _ w7).alloc _), ?_⟩
    have hR8 := rdr_new2 ha hb (ra.kept0 hK7) (rb.kept0 hK7) (ca := ca) (cb := cb) 22
    have hk8 : Kp0 w7 (w7.alloc (.cells #[.slice A la ca, .slice B lb cb] 22)) := (Kp.refl _ w7).alloc _
    generalize w7.heap.size = n7 at *
    generalize w7.alloc (.cells #[.slice A la ca, .slice B lb cb] 22) = w8 at *

    go_wp2_with fail
    refine (ssum_any [a, b] 2 2 _ rfl (by omega) (by simp; omega) _ hR8).mono ?_
    rintro e w9 ⟨r9, A9, c9, rfl, hO9, hk9, _⟩
    rw [show [a, b].flatten = a ++ b by simp] at hO9
    go_wp2_with fail
    refine ⟨Later.of hk9, ?_⟩
    have hC9 : ∀ u, (convert 22 9 (.slice A9 32 c9)).run Try.prog (later w9 u) = .ok (.string (bstr (sum (a ++ b)))) (later w9 u) := fun u => run_conv 22 9 5 Try.underlying22 Try.underlying5 Try.underlying9 _ A9 (sum (a ++ b)) 32 c9 (length_sum _) (hO9.rd.kept0 (later_kp _ u))
    open Go.BigFrame in
    repeat (go_big_quiet_step (fail))
    refine wpQuiet_nil ?_

    have hk10 : Kp0 W w9 := (hk7.then0 hk8).then0 hk9
    clear hC9 hO9
    have hK9 : Kp0 w w9 := hKD.then0 hk10
    have hE6 : HashAt w9 w3.heap.size g2 r6 (a ++ c) := hD6.kept0 hk10
    clear hk7 hk8 hk9 hD6 hD5 hR8 hK7

    refine ⟨?three, ?four⟩
    case three =>
      go_wp2_with fail
      refine (hsum_any w3.heap.size g2 r6 (a ++ c) (by rw [List.length_append]; omega) _ hE6).mono ?_
      rintro e w11 ⟨r11, A11, c11, rfl, hO11, hk11, hr11⟩
      go_wp2_with fail
      refine ⟨Later.of hk11, ?_⟩
      have hC11 : ∀ u, (convert 22 9 (.slice A11 32 c11)).run Try.prog (later w11 u) = .ok (.string (bstr (sum (a ++ c)))) (later w11 u) := fun u => run_conv 22 9 5 Try.underlying22 Try.underlying5 Try.underlying9 _ A11 (sum (a ++ c)) 32 c11 (length_sum _) (hO11.rd.kept0 (later_kp _ u))
      open Go.BigFrame in
      repeat (go_big_quiet_step (fail))
      refine wpQuiet_nil ?_
      have hK11 := hK9.then0 hk11
      clear hC11 hO11 hr11

      go_wp2_with fail
      refine ⟨Later.of ((Kp.refl _ w11).alloc _), ?_⟩
      have hR12 := rdr_new2 ha hc (ra.kept0 hK11) (rc.kept0 hK11) (ca := ca) (cb := cc) 22
      have hk12 : Kp0 w11 (w11.alloc (.cells #[.slice A la ca, .slice C lc cc] 22)) := (Kp.refl _ w11).alloc _
      generalize w11.heap.size = n11 at *
      generalize w11.alloc (.cells #[.slice A la ca, .slice C lc cc] 22) = w12 at *

      go_wp2_with fail
      refine (ssum_any [a, c] 2 2 _ rfl (by omega) (by simp; omega) _ hR12).mono ?_
      rintro e w13 ⟨r13, A13, c13, rfl, hO13, hk13, _⟩
      rw [show [a, c].flatten = a ++ c by simp] at hO13
      go_wp2_with fail
      refine ⟨Later.of hk13, ?_⟩
      have hC13 : ∀ u, (convert 22 9 (.slice A13 32 c13)).run Try.prog (later w13 u) = .ok (.string (bstr (sum (a ++ c)))) (later w13 u) := fun u => run_conv 22 9 5 Try.underlying22 Try.underlying5 Try.underlying9 _ A13 (sum (a ++ c)) 32 c13 (length_sum _) (hO13.rd.kept0 (later_kp _ u))
      open Go.BigFrame in
      repeat (go_big_quiet_step (fail))
      refine wpQuiet_nil ?_

      go_wp2_with fail
      go_ret
      exact ⟨rfl, (hK11.then0 hk12).then0 hk13⟩

    case four =>
      go_wp2_with fail
      refine ⟨Later.of ((Kp.refl _ w9).alloc _), ?_⟩
      have hR11 := rdr_new2 ha hc (ra.kept0 hK9) (rc.kept0 hK9) (ca := ca) (cb := cc) 22
      have hk11 : Kp0 w9 (w9.alloc (.cells #[.slice A la ca, .slice C lc cc] 22)) := (Kp.refl _ w9).alloc _
      generalize w9.heap.size = n11 at *
      generalize w9.alloc (.cells #[.slice A la ca, .slice C lc cc] 22) = w10 at *
      have hE7 := hE6.kept0 hk11

      go_wp2_with fail
      refine (hsum_any w3.heap.size g2 r6 (a ++ c) (by rw [List.length_append]; omega) _ hE7).mono ?_
      rintro e w12 ⟨r12, A12, c12, rfl, hO12, hk12, hr12⟩
      go_wp2_with fail
      refine ⟨Later.of hk12, ?_⟩
      have hC12 : ∀ u, (convert 22 9 (.slice A12 32 c12)).run Try.prog (later w12 u) = .ok (.string (bstr (sum (a ++ c)))) (later w12 u) := fun u => run_conv 22 9 5 Try.underlying22 Try.underlying5 Try.underlying9 _ A12 (sum (a ++ c)) 32 c12 (length_sum _) (hO12.rd.kept0 (later_kp _ u))
      open Go.BigFrame in
      repeat (go_big_quiet_step (fail))
      refine wpQuiet_nil ?_
      have hR12 := hR11.kept0 hk12
      clear hC12 hO12 hr12

      go_wp2_with fail
      refine (ssum_any [a, c] 2 2 _ rfl (by omega) (by simp; omega) _ hR12).mono ?_
      rintro e w13 ⟨r13, A13, c13, rfl, hO13, hk13, _⟩
      rw [show [a, c].flatten = a ++ c by simp] at hO13
      go_wp2_with fail
      refine ⟨Later.of hk13, ?_⟩
      have hC13 : ∀ u, (convert 22 9 (.slice A13 32 c13)).run Try.prog (later w13 u) = .ok (.string (bstr (sum (a ++ c)))) (later w13 u) := fun u => run_conv 22 9 5 Try.underlying22 Try.underlying5 Try.underlying9 _ A13 (sum (a ++ c)) 32 c13 (length_sum _) (hO13.rd.kept0 (later_kp _ u))
      open Go.BigFrame in
      repeat (go_big_quiet_step (fail))
      refine wpQuiet_nil ?_

      go_wp2_with fail
      go_ret
      exact ⟨rfl, ((hK9.then0 hk11).then0 hk12).then0 hk13⟩
  case two =>
    go_wp2_with fail
    refine ⟨Later.of ((Kp.refl _ W).alloc _), ?_⟩
    have hR7 := rdr_new2 ha hb (ra.kept0 hKD) (rb.kept0 hKD) (ca := ca) (cb := cb) 22
    have hk7 : Kp0 W (W.alloc (.cells #[.slice A la ca, .slice B lb cb] 22)) := (Kp.refl _ W).alloc _
    generalize W.heap.size = n7 at *
    generalize W.alloc (.cells #[.slice A la ca, .slice B lb cb] 22) = w7 at *

    have hD7 := hD5.kept0 hk7

    go_wp2_with fail
    refine (hsum_any w1.heap.size g r5 (a ++ b) (by rw [List.length_append]; omega) _ hD7).mono ?_
    rintro e w8 ⟨r8, A8, c8, rfl, hO8, hk8, hr8⟩
    go_wp2_with fail
    refine ⟨Later.of hk8, ?_⟩
    have hC8 : ∀ u, (convert 22 9 (.slice A8 32 c8)).run Try.prog (later w8 u) = .ok (.string (bstr (sum (a ++ b)))) (later w8 u) := fun u => run_conv 22 9 5 Try.underlying22 Try.underlying5 Try.underlying9 _ A8 (sum (a ++ b)) 32 c8 (length_sum _) (hO8.rd.kept0 (later_kp _ u))
    open Go.BigFrame in
    repeat (go_big_quiet_step (fail))
    refine wpQuiet_nil ?_

    have hR8 := hR7.kept0 hk8
    clear hC8 hO8 hr8

    go_wp2_with fail
    refine (ssum_any [a, b] 2 2 _ rfl (by omega) (by simp; omega) _ hR8).mono ?_
    rintro e w9 ⟨r9, A9, c9, rfl, hO9, hk9, _⟩
    rw [show [a, b].flatten = a ++ b by simp] at hO9
    go_wp2_with fail
    refine ⟨Later.of hk9, ?_⟩
    have hC9 : ∀ u, (convert 22 9 (.slice A9 32 c9)).run Try.prog (later w9 u) = .ok (.string (bstr (sum (a ++ b)))) (later w9 u) := fun u => run_conv 22 9 5 Try.underlying22 Try.underlying5 Try.underlying9 _ A9 (sum (a ++ b)) 32 c9 (length_sum _) (hO9.rd.kept0 (later_kp _ u))
    open Go.BigFrame in
    repeat (go_big_quiet_step (fail))
    refine wpQuiet_nil ?_

    have hk10 : Kp0 W w9 := (hk7.then0 hk8).then0 hk9
    clear hC9 hO9
    have hK9 : Kp0 w w9 := hKD.then0 hk10
    have hE6 : HashAt w9 w3.heap.size g2 r6 (a ++ c) := hD6.kept0 hk10
    clear hk7 hk8 hk9 hD6 hD5 hR8 hR7 hD7

    refine ⟨?three, ?four⟩
    case three =>
      go_wp2_with fail
      refine (hsum_any w3.heap.size g2 r6 (a ++ c) (by rw [List.length_append]; omega) _ hE6).mono ?_
      rintro e w11 ⟨r11, A11, c11, rfl, hO11, hk11, hr11⟩
      go_wp2_with fail
      refine ⟨Later.of hk11, ?_⟩
      have hC11 : ∀ u, (convert 22 9 (.slice A11 32 c11)).run Try.prog (later w11 u) = .ok (.string (bstr (sum (a ++ c)))) (later w11 u) := fun u => run_conv 22 9 5 Try.underlying22 Try.underlying5 Try.underlying9 _ A11 (sum (a ++ c)) 32 c11 (length_sum _) (hO11.rd.kept0 (later_kp _ u))
      open Go.BigFrame in
      repeat (go_big_quiet_step (fail))
      refine wpQuiet_nil ?_
      have hK11 := hK9.then0 hk11
      clear hC11 hO11 hr11

      go_wp2_with fail
      refine ⟨Later.of ((Kp.refl _ w11).alloc _), ?_⟩
      have hR12 := rdr_new2 ha hc (ra.kept0 hK11) (rc.kept0 hK11) (ca := ca) (cb := cc) 22
      have hk12 : Kp0 w11 (w11.alloc (.cells #[.slice A la ca, .slice C lc cc] 22)) := (Kp.refl _ w11).alloc _
      generalize w11.heap.size = n11 at *
      generalize w11.alloc (.cells #[.slice A la ca, .slice C lc cc] 22) = w12 at *

      go_wp2_with fail
      refine (ssum_any [a, c] 2 2 _ rfl (by omega) (by simp; omega) _ hR12).mono ?_
      rintro e w13 ⟨r13, A13, c13, rfl, hO13, hk13, _⟩
      rw [show [a, c].flatten = a ++ c by simp] at hO13
      go_wp2_with fail
      refine ⟨Later.of hk13, ?_⟩
      have hC13 : ∀ u, (convert 22 9 (.slice A13 32 c13)).run Try.prog (later w13 u) = .ok (.string (bstr (sum (a ++ c)))) (later w13 u) := fun u => run_conv 22 9 5 Try.underlying22 Try.underlying5 Try.underlying9 _ A13 (sum (a ++ c)) 32 c13 (length_sum _) (hO13.rd.kept0 (later_kp _ u))
      open Go.BigFrame in
      repeat (go_big_quiet_step (fail))
      refine wpQuiet_nil ?_

      go_wp2_with fail
      go_ret
      exact ⟨rfl, (hK11.then0 hk12).then0 hk13⟩

    case four =>
      go_wp2_with fail
      refine ⟨Later.of ((Kp.refl _ w9).alloc _), ?_⟩
      have hR11 := rdr_new2 ha hc (ra.kept0 hK9) (rc.kept0 hK9) (ca := ca) (cb := cc) 22
      have hk11 : Kp0 w9 (w9.alloc (.cells #[.slice A la ca, .slice C lc cc] 22)) := (Kp.refl _ w9).alloc _
      generalize w9.heap.size = n11 at *
      generalize w9.alloc (.cells #[.slice A la ca, .slice C lc cc] 22) = w10 at *
      have hE7 := hE6.kept0 hk11

      go_wp2_with fail
      refine (hsum_any w3.heap.size g2 r6 (a ++ c) (by rw [List.length_append]; omega) _ hE7).mono ?_
      rintro e w12 ⟨r12, A12, c12, rfl, hO12, hk12, hr12⟩
      go_wp2_with fail
      refine ⟨Later.of hk12, ?_⟩
      have hC12 : ∀ u, (convert 22 9 (.slice A12 32 c12)).run Try.prog (later w12 u) = .ok (.string (bstr (sum (a ++ c)))) (later w12 u) := fun u => run_conv 22 9 5 Try.underlying22 Try.underlying5 Try.underlying9 _ A12 (sum (a ++ c)) 32 c12 (length_sum _) (hO12.rd.kept0 (later_kp _ u))
      open Go.BigFrame in
      repeat (go_big_quiet_step (fail))
      refine wpQuiet_nil ?_
      have hR12 := hR11.kept0 hk12
      clear hC12 hO12 hr12

      go_wp2_with fail
      refine (ssum_any [a, c] 2 2 _ rfl (by omega) (by simp; omega) _ hR12).mono ?_
      rintro e w13 ⟨r13, A13, c13, rfl, hO13, hk13, _⟩
      rw [show [a, c].flatten = a ++ c by simp] at hO13
      go_wp2_with fail
      refine ⟨Later.of hk13, ?_⟩
      have hC13 : ∀ u, (convert 22 9 (.slice A13 32 c13)).run Try.prog (later w13 u) = .ok (.string (bstr (sum (a ++ c)))) (later w13 u) := fun u => run_conv 22 9 5 Try.underlying22 Try.underlying5 Try.underlying9 _ A13 (sum (a ++ c)) 32 c13 (length_sum _) (hO13.rd.kept0 (later_kp _ u))
      open Go.BigFrame in
      repeat (go_big_quiet_step (fail))
      refine wpQuiet_nil ?_

      go_wp2_with fail
      go_ret
      exact ⟨rfl, ((hK9.then0 hk11).then0 hk12).then0 hk13⟩

theorem copies_walk (a b c : List UInt8) (la lb lc ca cb cc : Nat) (A B C : Option Addr) (w : World) (ha : a.length = la) (hb : b.length = lb) (hc : c.length = lc) (ra : RdB w A a) (rb : RdB w B b) (rc : RdB w C c) :
    Calls Try.prog 5 #[.slice A la ca, .slice B lb cb, .slice C lc cc] w fun e w' => e = .returned (.bool true) ∧ Kp0 w w' := by
  by_cases h : 3000 < la ∨ 3000 < lb ∨ 3000 < lc
  · exact copies_big la lb lc ca cb cc A B C w h
  · exact copies_small a b c la lb lc ca cb cc A B C w ha hb hc ra rb rc (by omega) (by omega) (by omega)
end Go.Proofs.Ytbkmfoelaapkaaa
