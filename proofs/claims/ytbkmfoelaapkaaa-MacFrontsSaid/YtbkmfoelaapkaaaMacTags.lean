/- The statement MacTags: its walk. -/
import Derived.Test.YtbkmfoelaapkaaaRefMac
import Derived.Test.YtbkmfoelaapkaaaSame
namespace Go.Proofs.Ytbkmfoelaapkaaa
open Go Go.RowKit Sha

theorem rdr_new3 {w : World} {A B C : Option Addr} {a b d : List UInt8} {la lb ld ca cb cd : Nat} (ha : a.length = la) (hb : b.length = lb) (hd : d.length = ld) (ra : RdB w A a) (rb : RdB w B b) (rd : RdB w C d) (t : TypeId) :
    RdR (w.alloc (.cells #[.slice A la ca, .slice B lb cb, .slice C ld cd] t)) (some ⟨w.heap.size, 0, none⟩) [a, b, d] := by
  refine ⟨[.slice A la ca, .slice B lb cb, .slice C ld cd], rfl, rd_new w t _, fun j hj => ?_⟩
  have : j = 0 ∨ j = 1 ∨ j = 2 := by simp at hj; omega
  rcases this with rfl | rfl | rfl
  · exact ⟨A, ca, by simp [ha], ra.alloc _⟩
  · exact ⟨B, cb, by simp [hb], rb.alloc _⟩
  · exact ⟨C, cd, by simp [hd], rd.alloc _⟩
theorem few3 {a b d : List UInt8} (h : fewB [a, b, d] = true) : a.length ≤ 500 ∧ b.length ≤ 500 ∧ d.length ≤ 500 := by
  simpa [fewB] using h

set_option maxRecDepth 100000 in
set_option maxHeartbeats 1000000 in
theorem tags_walk (k a b : List UInt8) (K A B : Option Addr) (lk la lb ck ca cb : Nat) (hk : k.length = lk) (ha : a.length = la) (hb : b.length = lb) (w : World) (rk : RdB w K k) (ra : RdB w A a) (rb : RdB w B b) :
    Calls Try.prog 7 #[.slice K lk ck, .slice A la ca, .slice B lb cb] w fun e w' => e = .returned (.bool true) ∧ Kp0 w w' := by
  cases hq : fewB [k, a, b] with
  | false =>
    have HQ := Lib.hid hq
    clear hq
    go_enter Try.func7, Try.ntmps7
    go_wp2_with (first | (go_at_call 23; refine (lives04 _).mono ?_; rintro e w1 ⟨rfl, hk1⟩) | (go_at_call 24; refine (few_any [k, a, b] 3 3 _ rfl (by omega) _ (rdr_new3 hk ha hb (rk.kept0 hk1) (ra.kept0 hk1) (rb.kept0 hk1) 22)).mono ?_; rintro e w2 ⟨rfl, rfl⟩; rw [HQ.out]; have hk2 := hk1.alloc (.cells #[.slice K lk ck, .slice A la ca, .slice B lb cb] 22)))
    go_ret
    exact ⟨rfl, hk2.then0 (by assumption)⟩
  | true =>
    obtain ⟨h1, h2, h3⟩ := few3 hq
    have HQ := Lib.hid hq
    clear hq
    go_enter Try.func7, Try.ntmps7
    go_wp2_with (first | (go_at_call 23; refine (lives04 _).mono ?_; rintro e w1 ⟨rfl, hk1⟩) | (go_at_call 24; refine (few_any [k, a, b] 3 3 _ rfl (by omega) _ (rdr_new3 hk ha hb (rk.kept0 hk1) (ra.kept0 hk1) (rb.kept0 hk1) 22)).mono ?_; rintro e w2 ⟨rfl, he⟩; rw [HQ.out]; have hk2 : Kp0 w w2 := (by rw [he]; exact hk1.alloc (.cells #[.slice K lk ck, .slice A la ca, .slice B lb cb] 22)); clear he hk1) | (at_builtin; refine wpl_append _ rfl (.tmp 20) (.tmp 21) 22 rfl 5 (.int .u8 0) 1 Try.underlying22 (by kernel_rfl) rfl w.heap.size none _ 0 0 [] rfl (Own.empty _ _ _ _ _) K lk ck (bv k) rfl ((length_bv k).trans hk) (rk.kept0 (hk2.alloc _)) (one_bv _) ?h1 ?h2 ?h3 ?_))
    case h1 => have := hk2.size; simp; omega
    case h2 => simp only [maxLen]; omega
    case h3 => omega
    intro A2 c2 r2 w3 hO3 hk3 hr3
    have hK3 : Kp0 w w3 := (hk2.alloc _).then0 (hk3.mono fun _ _ h => by cases h)
    have hR3 : RdB w3 A2 k := hO3.rd
    clear hO3 hk3 hr3 hk2
    go_wp2_with fail
    refine (tag_any k [a, b] A2 _ lk c2 2 2 hk (by omega) rfl (by omega) (by simp; omega) _ (hR3.alloc _) (rdr_new2 ha hb (ra.kept0 hK3) (rb.kept0 hK3) 22)).mono ?_
    rintro e w4 ⟨r4, A4, c4, rfl, hO4, hk4, _⟩
    rw [show [a, b].flatten = a ++ b by simp] at hO4
    have hk4' : Kp0 w3 w4 := ((Kp.refl _ w3).alloc _).then0 hk4
    have hK4 : Kp0 w w4.drew := (hK3.then0 hk4').drew
    have hR4 : RdB w4.drew A2 k := hR3.kept0 hk4'.drew
    have hC4 : ∀ u, (convert 22 9 (.slice A4 32 c4)).run Try.prog (later w4.drew u) = .ok (.string (bstr (tag k (a ++ b)))) (later w4.drew u) := fun u => run_conv 22 9 5 Try.underlying22 Try.underlying5 Try.underlying9 _ A4 (tag k (a ++ b)) 32 c4 (length_tag _ _) (hO4.drew.rd.kept0 (later_kp _ u))
    have rk4 := rk.kept0 hK4
    have ra4 := ra.kept0 hK4
    have rb4 := rb.kept0 hK4
    clear hk4 hk4' hO4 hR3
    go_wp2_with fail
    refine wp_region_kp 15 (.takes [0, 1, 2, 3, 4] (.eff 5 (.eff 6 (.eff 7 (.takes [8, 9, 10, 11, 12, 13, 14] (.stop)))))) (by kernel_rfl) (by kernel_rfl) ?_
    simp only [Plan.wp, pick, consO, List.getElem?_toArray, List.getElem?_cons_zero, List.getElem?_cons_succ, List.drop_succ_cons, List.drop_zero]
    generalize w4.drew = W at *
    open Go.BigFrame in
    repeat (go_big_quiet_step (fail))
    refine wpQuiet_nil ?_
    clear hC4
    go_wp2_with fail
    have hk5 : Kp0 W (W.alloc (.cells #[.slice A la ca, .slice B lb cb] 22)) := (Kp.refl _ W).alloc _
    refine ⟨Later.of hk5, ?_⟩
    have hRR := rdr_new2 ha hb ra4 rb4 (ca := ca) (cb := cb) 22
    generalize W.heap.size = n5 at *
    generalize W.alloc (.cells #[.slice A la ca, .slice B lb cb] 22) = w5 at *
    go_wp2_with fail
    refine (join_any [a, b] 2 2 _ rfl (by omega) (by simp; omega) _ hRR).mono ?_
    rintro e w6 ⟨r6, A6, c6, rfl, hJ, hk6, _⟩
    have hJl : [a, b].flatten.length = la + lb := by simp [ha, hb]
    rw [hJl, show [a, b].flatten = a ++ b by simp] at hJ
    rw [hJl]
    go_wp2_with fail
    refine ⟨Later.of hk6, ?_⟩
    have hk6' := hk5.then0 hk6
    go_wp2_with fail
    refine (rtag_any k (a ++ b) K A6 lk ck (la + lb) c6 hk (by omega) (by simp [ha, hb]) (by omega) _ (rk4.kept0 hk6') hJ.rd).mono ?_
    rintro e w7 ⟨r7, A7, c7, rfl, hO7, hk7⟩
    go_wp2_with fail
    refine ⟨Later.of hk7, ?_⟩
    have hk7' := hk6'.then0 hk7
    have hC7 : ∀ u, (convert 22 9 (.slice A7 32 c7)).run Try.prog (later w7 u) = .ok (.string (bstr (tag k (a ++ b)))) (later w7 u) := fun u => run_conv 22 9 5 Try.underlying22 Try.underlying5 Try.underlying9 _ A7 (tag k (a ++ b)) 32 c7 (length_tag _ _) (hO7.rd.kept0 (later_kp _ u))
    have hC8 : ∀ u, (convert 22 9 (.slice A2 lk c2)).run Try.prog (later w7 u) = .ok (.string (bstr k)) (later w7 u) := fun u => run_conv 22 9 5 Try.underlying22 Try.underlying5 Try.underlying9 _ A2 k lk c2 hk ((hR4.kept0 hk7').kept0 (later_kp _ u))
    have hC9 : ∀ u, (convert 22 9 (.slice K lk ck)).run Try.prog (later w7 u) = .ok (.string (bstr k)) (later w7 u) := fun u => run_conv 22 9 5 Try.underlying22 Try.underlying5 Try.underlying9 _ K k lk ck hk ((rk4.kept0 hk7').kept0 (later_kp _ u))
    open Go.BigFrame in
    repeat (go_big_quiet_step (fail))
    refine wpQuiet_nil ?_
    go_wp2_with fail
    go_ret
    exact ⟨rfl, hK4.then0 hk7'⟩
end Go.Proofs.Ytbkmfoelaapkaaa
