/- The statement ShaSums: its walk. -/
import Derived.Test.YtbkmfoelaapkaaaRefSum
import Derived.Test.YtbkmfoelaapkaaaLaw03
import Derived.Test.YtbkmfoelaapkaaaSame
namespace Go.Proofs.Ytbkmfoelaapkaaa
open Go Go.RowKit Sha

set_option maxRecDepth 100000 in
set_option maxHeartbeats 1000000 in
theorem sums_walk (a : List UInt8) (A : Option Addr) (m c : Nat) (hm : a.length = m) (w : World) (ra : RdB w A a) :
    Calls Try.prog 3 #[.slice A m c] w fun e w' => e = .returned (.bool true) ∧ Kp0 w w' := by
  by_cases h3 : m ≤ 1000
  · go_enter Try.func3, Try.ntmps3
    go_wp2_with (first | (go_at_call 13; refine (lives03 _).mono ?_; rintro e w1 ⟨rfl, hk1⟩) | (at_builtin; refine wpl_append _ rfl (.tmp 13) (.tmp 14) 22 rfl 5 (.int .u8 0) 1 Try.underlying22 (by kernel_rfl) rfl w.heap.size none _ 0 0 [] rfl (Own.empty _ _ _ _ _) A m c (bv a) rfl ((length_bv a).trans hm) (ra.kept0 (hk1.alloc _)) (one_bv _) ?h1 ?h2 ?h3 ?_))
    case h1 => have := hk1.size; simp; omega
    case h2 => simp only [maxLen]; omega
    case h3 => omega
    intro A2 c2 r2 w2 hO2 hk2 hr2
    have hK2 : Kp0 w w2 := (hk1.alloc _).then0 (hk2.mono fun _ _ h => by cases h)
    have hR2 : RdB w2 A2 a := hO2.rd
    clear hO2 hk2 hr2 hk1
    go_wp2_with fail
    refine (ssum_any [a] 1 1 _ rfl (by omega) (by simp; omega) _ (rdr_new1 hm hR2 22)).mono ?_
    rintro e w3 ⟨r3, A3, c3, rfl, hO3, hk3, _⟩
    rw [show [a].flatten = a by simp] at hO3
    have hk3' : Kp0 w2 w3 := ((Kp.refl _ w2).alloc _).then0 hk3
    have hK3 : Kp0 w w3.drew := (hK2.then0 hk3').drew
    have hR3 : RdB w3.drew A2 a := hR2.kept0 hk3'.drew
    have hRa3 : RdB w3.drew A a := ra.kept0 hK3
    have hC3 : ∀ u, (convert 22 9 (.slice A3 32 c3)).run Try.prog (later w3.drew u) = .ok (.string (bstr (sum a))) (later w3.drew u) := fun u => run_conv 22 9 5 Try.underlying22 Try.underlying5 Try.underlying9 _ A3 (sum a) 32 c3 (length_sum _) (hO3.drew.rd.kept0 (later_kp _ u))
    clear hk3 hk3' hK2 hR2 hO3
    go_wp2_with fail
    refine wp_region_kp 11 (.takes [0, 1, 2] (.eff 3 (.takes [4, 5, 6, 7, 8, 9, 10] (.stop)))) (by kernel_rfl) (by kernel_rfl) ?_
    simp only [Plan.wp, pick, consO, List.getElem?_toArray, List.getElem?_cons_zero, List.getElem?_cons_succ, List.drop_succ_cons, List.drop_zero]
    generalize w3.drew = W at *
    open Go.BigFrame in
    repeat (go_big_quiet_step (fail))
    refine wpQuiet_nil ?_
    clear hC3
    go_wp2_with fail
    refine (rsum_any a A m c hm (by omega) _ hRa3).mono ?_
    rintro e w4 ⟨r4, A4, c4, rfl, hO4, hk4⟩
    go_wp2_with fail
    refine ⟨Later.of hk4, ?_⟩
    have hC4 : ∀ u, (convert 22 9 (.slice A4 32 c4)).run Try.prog (later w4 u) = .ok (.string (bstr (sum a))) (later w4 u) := fun u => run_conv 22 9 5 Try.underlying22 Try.underlying5 Try.underlying9 _ A4 (sum a) 32 c4 (length_sum _) (hO4.rd.kept0 (later_kp _ u))
    have hC5 : ∀ u, (convert 22 9 (.slice A2 m c2)).run Try.prog (later w4 u) = .ok (.string (bstr a)) (later w4 u) := fun u => run_conv 22 9 5 Try.underlying22 Try.underlying5 Try.underlying9 _ A2 a m c2 hm ((hR3.kept0 hk4).kept0 (later_kp _ u))
    have hC6 : ∀ u, (convert 22 9 (.slice A m c)).run Try.prog (later w4 u) = .ok (.string (bstr a)) (later w4 u) := fun u => run_conv 22 9 5 Try.underlying22 Try.underlying5 Try.underlying9 _ A a m c hm ((hRa3.kept0 hk4).kept0 (later_kp _ u))
    have hE := eq_bstr a a
    open Go.BigFrame in
    repeat (go_big_quiet_step (fail))
    refine wpQuiet_nil ?_
    go_wp2_with fail
    go_ret
    exact ⟨rfl, hK3.then0 hk4⟩
  · go_enter Try.func3, Try.ntmps3
    go_wp2_with (go_at_call 13; refine (lives03 _).mono ?_; rintro e w1 ⟨rfl, hk1⟩)
    all_goals (first | (go_ret; exact ⟨rfl, Kp.then0 (by assumption) (by assumption)⟩) | omega)
end Go.Proofs.Ytbkmfoelaapkaaa
