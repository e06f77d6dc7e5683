/- The statement MacDerives: its walk. -/
import Derived.Test.YtbkmfoelaapkaaaMacExpands
namespace Go.Proofs.Ytbkmfoelaapkaaa
open Go Go.RowKit Sha

theorem uint_mod (n : Int) (d : Nat) (h0 : 0 < d) (h1 : d ≤ 4294967296) : ∃ m : Nat, wrap64 ((IntKind.u64.wrap n).tmod (d : Int)) = (m : Int) ∧ m < d := by
  rw [IntKind.wrap_u64, Int.tmod_eq_emod_of_nonneg (by omega)]
  have h2 := Int.emod_nonneg (n % 18446744073709551616) (show (d : Int) ≠ 0 by omega)
  have h3 := Int.emod_lt_of_pos (n % 18446744073709551616) (show (0 : Int) < (d : Int) by omega)
  refine ⟨(n % 18446744073709551616 % (d : Int)).toNat, ?_, by omega⟩
  rw [IntWalk.wrap64_in _ (by omega)]
  omega

set_option maxRecDepth 100000 in
set_option maxHeartbeats 1000000 in
theorem extract_any (s b : List UInt8) (A B : Option Addr) (m c n c2 : Nat) (hm : s.length = m) (hl : m ≤ 100000) (hn : b.length = n) (hl2 : n ≤ 100000) (w : World) (ra : RdB w A s) (rb : RdB w B b) :
    Calls Try.prog 34 #[.slice A m c, .slice B n c2] w fun e w' => ∃ A' c', e = .returned (.slice A' 32 c') ∧ RdB w' A' (tag s b) ∧ Kp0 w w' := by
  go_enter Try.func34, Try.ntmps34
  go_wp2_with fail
  refine (tag_any s [b] A _ m c 1 1 hm (by omega) rfl (by omega) (by simp; omega) _ (ra.alloc _) (rdr_new1 hn rb 22)).mono ?_
  rintro e w4 ⟨r4, A4, c4, rfl, hO4, hk4, _⟩
  rw [show [b].flatten = b by simp] at hO4
  have hk : Kp0 w w4 := ((Kp.refl _ w).alloc _).then0 hk4
  go_wp2_with fail
  go_ret
  exact ⟨A4, c4, rfl, hO4.rd, hk⟩

set_option maxRecDepth 100000 in
set_option maxHeartbeats 1000000 in
theorem mderive_any (s b i : List UInt8) (A B I : Option Addr) (ls lb li cs cb ci n : Nat) (hs : s.length = ls) (hl : ls ≤ 90000) (hb : b.length = lb) (hl2 : lb ≤ 90000) (hi : i.length = li) (hl3 : li ≤ 90000) (hn : n ≤ 8160) (w : World) (ra : RdB w A s) (rb : RdB w B b) (ri : RdB w I i) :
    Calls Try.prog 32 #[.slice A ls cs, .slice B lb cb, .slice I li ci, .int .i64 (n : Int)] w fun e w' => ∃ A', e = .returned (.tuple #[.slice A' n n, .int .i64 0]) ∧ RdB w' A' (expand (tag s b) i n) ∧ Kp0 w w' := by
  go_enter Try.func32, Try.ntmps32
  go_wp2_with (first | (go_at_call 34; refine (extract_any s b A B ls cs lb cb hs (by omega) hb (by omega) _ ra rb).mono ?_; rintro e w1 ⟨A1, c1, rfl, hR1, hk1⟩) | (go_at_call 29; refine (mexpand_any (tag s b) i A1 I 32 c1 li ci n (length_tag _ _) (by omega) hi (by omega) hn _ hR1 (ri.kept0 hk1)).mono ?_; rintro e w2 ⟨A2, rfl, hR2, hk2⟩))
  go_ret2
  exact ⟨A2, rfl, hR2, hk1.then0 hk2⟩

set_option maxRecDepth 100000 in
set_option maxHeartbeats 1000000 in
theorem rderive_any (s b i : List UInt8) (A B I : Option Addr) (ls lb li cs cb ci n : Nat) (hs : s.length = ls) (hl : ls ≤ 90000) (hb : b.length = lb) (hl2 : lb ≤ 90000) (hi : i.length = li) (hl3 : li ≤ 90000) (hn : n ≤ 8160) (w : World) (ra : RdB w A s) (rb : RdB w B b) (ri : RdB w I i) :
    Calls Try.prog 33 #[.slice A ls cs, .slice B lb cb, .slice I li ci, .int .i64 (n : Int)] w fun e w' => ∃ A' c', e = .returned (.slice A' n c') ∧ RdB w' A' (expand (tag s b) i n) ∧ Kp0 w w' := by
  go_enter Try.func33, Try.ntmps33
  go_wp2_with (first | (go_at_call 26; refine (rtag_any s b A B ls cs lb cb hs (by omega) hb (by omega) _ ra rb).mono ?_; rintro e w1 ⟨r1, A1, c1, rfl, hO1, hk1⟩; have hR1 : RdB w1 A1 (tag s b) := hO1.rd) | (go_at_call 31; refine (rexpand_any (tag s b) i A1 I 32 c1 li ci n (length_tag _ _) (by omega) hi (by omega) hn _ hR1 (ri.kept0 hk1)).mono ?_; rintro e w2 ⟨A2, c2, rfl, hR2, hk2⟩))
  go_ret
  exact ⟨A2, c2, rfl, hR2, hk1.then0 hk2⟩

set_option maxRecDepth 100000 in
set_option maxHeartbeats 2000000 in
theorem derives_walk (s b i : List UInt8) (A B I : Option Addr) (ls lb li cs cb ci : Nat) (n : Int) (hs : s.length = ls) (hb : b.length = lb) (hi : i.length = li) (w : World) (ra : RdB w A s) (rb : RdB w B b) (ri : RdB w I i) (hn : -9223372036854775808 ≤ n ∧ n ≤ 9223372036854775807) :
    Calls Try.prog 12 #[.slice A ls cs, .slice B lb cb, .slice I li ci, .int .i64 n] w fun e w' => e = .returned (.bool true) ∧ Kp0 w w' := by
  cases hq : fewB [s, b, i] with
  | false =>
    have HQ := Lib.hid hq
    clear hq
    go_enter Try.func12, Try.ntmps12
    go_wp2_with (first | (go_at_call 23; refine (lives04 _).mono ?_; rintro e w1 ⟨rfl, hk1⟩) | (go_at_call 24; refine (few_any [s, b, i] 3 3 _ rfl (by omega) _ (rdr_new3 hs hb hi (ra.kept0 hk1) (rb.kept0 hk1) (ri.kept0 hk1) 22)).mono ?_; rintro e w2 ⟨rfl, rfl⟩; rw [HQ.out]; have hk2 := hk1.alloc (.cells #[.slice A ls cs, .slice B lb cb, .slice I li ci] 22)))
    go_ret
    exact ⟨rfl, hk2.then0 (by assumption)⟩
  | true =>
    obtain ⟨h1, h2, h3⟩ := few3 hq
    have HQ := Lib.hid hq
    clear hq
    go_enter Try.func12, Try.ntmps12
    go_wp2_with (first | (go_at_call 23; refine (lives04 _).mono ?_; rintro e w1 ⟨rfl, hk1⟩) | (go_at_call 24; refine (few_any [s, b, i] 3 3 _ rfl (by omega) _ (rdr_new3 hs hb hi (ra.kept0 hk1) (rb.kept0 hk1) (ri.kept0 hk1) 22)).mono ?_; rintro e w2 ⟨rfl, he⟩; rw [HQ.out]; have hk2 : Kp0 w w2 := (by rw [he]; exact hk1.alloc (.cells #[.slice A ls cs, .slice B lb cb, .slice I li ci] 22)); clear he hk1))
    obtain ⟨m, hm, hm2⟩ := uint_mod n 200 (by decide) (by decide)
    have hm2' : m < 200 := hm2
    rw [show ((200 : Nat) : Int) = 200 from rfl] at hm
    rw [hm]
    clear hm hm2
    refine (mderive_any s b i A B I ls lb li cs cb ci m hs (by omega) hb (by omega) hi (by omega) (by omega) _ (ra.kept0 hk2) (rb.kept0 hk2) (ri.kept0 hk2)).mono ?_
    rintro e w3 ⟨A3, rfl, hR3, hk3⟩
    have hK3 : Kp0 w w3.drew := (hk2.then0 hk3).drew
    have hR3' : RdB w3.drew A3 (expand (tag s b) i m) := hR3
    have hC3 : ∀ u, (convert 22 9 (.slice A3 m m)).run Try.prog (later w3.drew u) = .ok (.string (bstr (expand (tag s b) i m))) (later w3.drew u) := fun u => run_conv 22 9 5 Try.underlying22 Try.underlying5 Try.underlying9 _ A3 (expand (tag s b) i m) m m (length_expand _ _ _) (hR3'.kept0 (later_kp _ u))
    have ra3 := ra.kept0 hK3
    have rb3 := rb.kept0 hK3
    have ri3 := ri.kept0 hK3
    clear hR3 hR3' hk2 hk3
    go_wp2_with fail
    refine wp_region_kp 22 (.takes [0, 1, 2, 3, 4, 5, 6, 7, 8] (.eff 9 (.takes [10, 11, 12, 13, 14, 15, 18, 19] (.eff 16 (.takes [17] (.eff 20 (.takes [21] (.stop)))))))) (by kernel_rfl) (by kernel_rfl) ?_
    simp only [Plan.wp, pick, consO, List.getElem?_toArray, List.getElem?_cons_zero, List.getElem?_cons_succ, List.drop_succ_cons, List.drop_zero]
    generalize w3.drew = W at *
    open Go.BigFrame in
    repeat (go_big_quiet_step (fail))
    refine wpQuiet_nil ?_
    clear hC3
    go_wp2_with fail
    refine (rderive_any s b i A B I ls lb li cs cb ci m hs (by omega) hb (by omega) hi (by omega) (by omega) _ ra3 rb3 ri3).mono ?_
    rintro e w5 ⟨A5, c5, rfl, hR5, hk5⟩
    go_wp2_with fail
    refine ⟨Later.of hk5, ?_⟩
    have hC5 : ∀ u, (convert 22 9 (.slice A5 m c5)).run Try.prog (later w5 u) = .ok (.string (bstr (expand (tag s b) i m))) (later w5 u) := fun u => run_conv 22 9 5 Try.underlying22 Try.underlying5 Try.underlying9 _ A5 (expand (tag s b) i m) m c5 (length_expand _ _ _) (hR5.kept0 (later_kp _ u))
    open Go.BigFrame in
    repeat (go_big_quiet_step (fail))
    refine wpQuiet_nil ?_
    clear hC5 hR5
    go_wp2_with fail
    refine (extract_any s b A B ls cs lb cb hs (by omega) hb (by omega) _ (ra3.kept0 hk5) (rb3.kept0 hk5)).mono ?_
    rintro e w6 ⟨A6, c6, rfl, hR6, hk6⟩
    go_wp2_with fail
    refine ⟨Later.of hk6, ?_⟩
    have hC6 : ∀ u, (convert 22 9 (.slice A6 32 c6)).run Try.prog (later w6 u) = .ok (.string (bstr (tag s b))) (later w6 u) := fun u => run_conv 22 9 5 Try.underlying22 Try.underlying5 Try.underlying9 _ A6 (tag s b) 32 c6 (length_tag _ _) (hR6.kept0 (later_kp _ u))
    open Go.BigFrame in
    repeat (go_big_quiet_step (fail))
    refine wpQuiet_nil ?_
    clear hC6 hR6
    have hk6' := hk5.then0 hk6
    go_wp2_with fail
    refine (rtag_any s b A B ls cs lb cb hs (by omega) hb (by omega) _ (ra3.kept0 hk6') (rb3.kept0 hk6')).mono ?_
    rintro e w7 ⟨r7, A7, c7, rfl, hO7, hk7⟩
    go_wp2_with fail
    refine ⟨Later.of hk7, ?_⟩
    have hC7 : ∀ u, (convert 22 9 (.slice A7 32 c7)).run Try.prog (later w7 u) = .ok (.string (bstr (tag s b))) (later w7 u) := fun u => run_conv 22 9 5 Try.underlying22 Try.underlying5 Try.underlying9 _ A7 (tag s b) 32 c7 (length_tag _ _) (hO7.rd.kept0 (later_kp _ u))
    open Go.BigFrame in
    repeat (go_big_quiet_step (fail))
    refine wpQuiet_nil ?_
    go_wp2_with fail
    go_ret
    exact ⟨rfl, hK3.then0 (hk6'.then0 hk7)⟩
end Go.Proofs.Ytbkmfoelaapkaaa
