/- The statement MacKeys: its walk. -/
import Derived.Test.YtbkmfoelaapkaaaMacTags
namespace Go.Proofs.Ytbkmfoelaapkaaa
open Go Go.RowKit Sha

theorem tag_key (k m : List UInt8) (h : 64 < k.length) : tag (sum k) m = tag k m := by
  have h1 : mkey (sum k) = sum k := by unfold mkey; rw [if_neg (by rw [length_sum]; decide)]
  have h2 : mkey k = sum k := by unfold mkey; rw [if_pos h]
  unfold tag mpad filled
  rw [h1, h2]
theorem few1 {a : List UInt8} (h : fewB [a] = true) : a.length ≤ 500 := by simpa [fewB] using h
theorem few_flat : ∀ (xss : List (List UInt8)), fewB xss = true → xss.flatten.length ≤ 500 * xss.length
  | [], _ => by simp
  | x :: xs, h => by
    have h' : x.length ≤ 500 ∧ fewB xs = true := by simpa [fewB] using h
    have := few_flat xs h'.2
    rw [List.flatten_cons, List.length_append, List.length_cons]
    omega

set_option maxRecDepth 100000 in
set_option maxHeartbeats 4000000 in
theorem keys_walk (k : List UInt8) (xss : List (List UInt8)) (K B : Option Addr) (lk ck n c2 : Nat) (hk : k.length = lk) (hn : xss.length = n) (hn2 : n ≤ 9223372036854775807) (w : World) (rk : RdB w K k) (rR : RdR w B xss) :
    Calls Try.prog 8 #[.slice K lk ck, .slice B n c2] w fun e w' => e = .returned (.bool true) ∧ Kp0 w w' := by
  cases hq1 : fewB [k] with
  | false =>
    have HQ1 := Lib.hid hq1
    clear hq1
    go_enter Try.func8, Try.ntmps8
    go_wp2_with (first | (go_at_call 23; refine (lives04 _).mono ?_; rintro e w1 ⟨rfl, hk1⟩) | (go_at_call 24; refine (few_any [k] 1 1 _ rfl (by omega) _ (rdr_new1 hk (rk.kept0 hk1) 22)).mono ?_; rintro e w2 ⟨rfl, he⟩; rw [HQ1.out]; have hk2 : Kp0 w w2 := (by rw [he]; exact hk1.alloc (.cells #[.slice K lk ck] 22)); clear he hk1))
    go_ret
    exact ⟨rfl, hk2.then0 (by assumption)⟩
  | true =>
    have hlk := few1 hq1
    have HQ1 := Lib.hid hq1
    clear hq1
    cases hq2 : fewB xss with
    | false =>
      have HQ2 := Lib.hid hq2
      clear hq2
      go_enter Try.func8, Try.ntmps8
      go_wp2_with (first | (go_at_call 23; refine (lives04 _).mono ?_; rintro e w1 ⟨rfl, hk1⟩) | (go_at_call 24; refine (few_any [k] 1 1 _ rfl (by omega) _ (rdr_new1 hk (rk.kept0 hk1) 22)).mono ?_; rintro e w2 ⟨rfl, he⟩; rw [HQ1.out]; have hk2 : Kp0 w w2 := (by rw [he]; exact hk1.alloc (.cells #[.slice K lk ck] 22)); clear he hk1) | (go_at_call 24; refine (few_any xss n c2 B hn hn2 _ (rR.kept0 hk2)).mono ?_; rintro e w3 ⟨rfl, he⟩; rw [HQ2.out]; have hk3 : Kp0 w w3 := (by rw [he]; exact hk2); clear he hk2))
      go_ret
      exact ⟨rfl, hk3.then0 (by assumption)⟩
    | true =>
      have hfl := few_flat xss hq2
      have HQ2 := Lib.hid hq2
      clear hq2
      by_cases h10 : n ≤ 10
      · go_enter Try.func8, Try.ntmps8
        go_wp2_with (first | (go_at_call 23; refine (lives04 _).mono ?_; rintro e w1 ⟨rfl, hk1⟩) | (go_at_call 24; refine (few_any [k] 1 1 _ rfl (by omega) _ (rdr_new1 hk (rk.kept0 hk1) 22)).mono ?_; rintro e w2 ⟨rfl, he⟩; rw [HQ1.out]; have hk2 : Kp0 w w2 := (by rw [he]; exact hk1.alloc (.cells #[.slice K lk ck] 22)); clear he hk1) | (go_at_call 24; refine (few_any xss n c2 B hn hn2 _ (rR.kept0 hk2)).mono ?_; rintro e w3 ⟨rfl, he⟩; rw [HQ2.out]; have hk3 : Kp0 w w3 := (by rw [he]; exact hk2); clear he hk2))
        go_loopg [5, 30] n (fun kq v5 v30 wr => ∃ (j : Nat) (A' : Option Addr) (c' : Nat) (r' : Option Nat), j ≤ n ∧ kq = n - j ∧ v30 = .int .i64 (j : Int) ∧ v5 = .slice A' (xss.take j).flatten.length c' ∧ Own wr w.heap.size 5 r' A' (xss.take j).flatten.length c' (bv (xss.take j).flatten) ∧ Kp0 w wr ∧ ∀ i, r' = some i → w.heap.size ≤ i)
        case atStart => exact ⟨0, none, 0, none, by omega, rfl, rfl, rfl, Own.nil _ _ _ _, hk3, fun j h => by cases h⟩
        case round =>
          clear hk3
          obtain ⟨j, A', c', r', hj, rfl, rfl, rfl, hO, hK, hrl⟩ := hrel
          by_cases hlt : j < n
          · obtain ⟨b, o, D, c4, rfl, hcell, hB⟩ := (rR.kept0 hK).at_ (j := j) (by omega)
            have hfl2 := flat_take_succ xss j (by omega)
            have h1 := flat_take_le xss j
            have h2 := flat_take_le xss (j + 1)
            have h3 : (xss.take (j + 1)).flatten.length = (xss.take j).flatten.length + (xss.getD j []).length := by rw [hfl2, List.length_append]
            have HF := Lib.hid hfl2
            have HF3 := Lib.hid h3
            generalize xss.getD j [] = x at *
            generalize hM : (xss.take j).flatten = M at *
            have HM := Lib.hid hM
            have hb1 : M.length + x.length ≤ 5000 := by omega
            clear hfl2 h1 h2 h3 hM
            generalize hML : M.length = ml at *
            generalize hXL : x.length = xl at *
            go_wp2_with (at_builtin; refine wpl_append _ rfl (.tmp 34) (.tmp 35) 22 rfl 5 (.int .u8 0) 1 Try.underlying22 (by kernel_rfl) rfl w.heap.size r' A' ml c' (bv M) rfl hO D xl c4 (bv x) rfl ((length_bv x).trans hXL) hB (one_bv _) ?h1 ?h2 ?h3 ?_)
            case h1 => exact hK.size
            case h2 => simp only [maxLen]; omega
            case h3 => omega
            intro A2 c3 r2 w4 hO2 hk4 hr2
            go_wp2
            go_roundg (n - (j + 1))
            case measure => omega
            case rel =>
              refine ⟨j + 1, A2, c3, r2, by omega, rfl, by go_num, by rw [HF3.out], ?_, hK.past hk4 (fun i e => hrl i e.symm), ?_⟩
              · rw [HF3.out, HF.out, bv_append]
                exact hO2
              · intro i hi
                rcases hr2 with h | ⟨i', h, h2, _⟩
                · exact hrl i (h ▸ hi)
                · rw [h] at hi; injection hi with hi; subst hi; have := hK.size; omega
          · obtain rfl : j = n := by omega
            have hfull : xss.take j = xss := List.take_of_length_le (by omega)
            rw [hfull] at hO ⊢
            clear hfull
            obtain ⟨fl, hFle⟩ : ∃ m, m = xss.flatten.length := ⟨_, rfl⟩
            rw [← hFle] at hO ⊢
            go_wp2_with fail
            refine (tag_any k xss K B lk ck j c2 hk (by omega) hn hn2 (by omega) _ (rk.kept0 hK) (rR.kept0 hK)).mono ?_
            rintro e w5 ⟨r5, A5, c5, rfl, hT, hk5, _⟩
            have hKc0 : Kp0 w w5 := hK.then0 hk5
            have ft : RdB w5 A5 (tag k xss.flatten) := hT.rd
            have fa : RdB w5 A' xss.flatten := hO.rd.kept0 hk5
            have fk := rk.kept0 hKc0
            have hFl : xss.flatten.length = fl := hFle.symm
            clear hFle
            have hf5 : fl ≤ 5000 := by omega
            generalize xss.flatten = F at *
            replace hKc0 : Kp0 w w5.drew := hKc0.drew
            replace ft : RdB w5.drew A5 (tag k F) := ft
            replace fa : RdB w5.drew A' F := fa
            replace fk : RdB w5.drew K k := fk
            have hKc := hKc0
            clear hKc0 hO hK hT hk5
            have hC5 : ∀ u, (convert 22 9 (.slice A5 32 c5)).run Try.prog (later w5.drew u) = .ok (.string (bstr (tag k F))) (later w5.drew u) := fun u => run_conv 22 9 5 Try.underlying22 Try.underlying5 Try.underlying9 _ A5 (tag k F) 32 c5 (length_tag _ _) (ft.kept0 (later_kp _ u))
            go_wp2_with fail
            refine wp_region_kp 13 (.takes [0] (.eff 1 (.takes [2, 3, 4, 5, 6, 9] (.fork 7 10 (.fork 8 10 (.eff 10 (.eff 11 (.takes [12] (.stop)))) (.eff 8 (.eff 11 (.takes [12] (.stop))))) (.eff 7 (.eff 8 (.eff 11 (.takes [12] (.stop))))))))) (by kernel_rfl) (by kernel_rfl) ?_
            simp only [Plan.wp, pick, consO, List.getElem?_toArray, List.getElem?_cons_zero, List.getElem?_cons_succ, List.drop_succ_cons, List.drop_zero]
            generalize w5.drew = W at *
            by_cases h64 : 64 < lk
            · have hd : decide ((64 : Int) < (lk : Int)) = true := decide_eq_true (by omega)
              open Go.BigFrame in
              repeat (go_big_quiet_step (fail))
              refine wpQuiet_nil ?_
              go_wp2_with fail
              refine ⟨Later.of (Kp.refl _ _), ?_⟩
              open Go.BigFrame in
              repeat (go_big_quiet_step (fail))
              refine wpQuiet_nil ?_
              clear hC5
              refine ⟨?p1, ?q1⟩
              case p1 =>
                go_wp2_with fail
                have hq1 : Kp0 W (W.alloc (.cells #[.slice K lk ck] 22)) := (Kp.refl _ W).alloc _
                refine ⟨Later.of hq1, ?_⟩
                have f7 := rdr_new1 (ca := ck) hk fk 22
                generalize W.heap.size = n7 at *
                generalize W.alloc (.cells #[.slice K lk ck] 22) = v1 at *
                replace fk := fk.kept0 hq1
                replace fa := fa.kept0 hq1
                replace ft := ft.kept0 hq1
                replace hKc := hKc.then0 hq1
                refine ⟨?p2, ?q2⟩
                case p2 =>
                  go_wp2_with fail
                  refine (ssum_any [k] 1 1 _ rfl (by omega) (by simp; omega) _ f7).mono ?_
                  rintro e v2 ⟨r8, A8, c8, rfl, hO8, hq2, _⟩
                  rw [show [k].flatten = k by simp] at hO8
                  have f8 : RdB v2 A8 (sum k) := hO8.rd
                  clear hO8
                  go_wp2_with fail
                  refine ⟨Later.of hq2, ?_⟩
                  replace fk := fk.kept0 hq2
                  replace fa := fa.kept0 hq2
                  replace ft := ft.kept0 hq2
                  replace f7 := f7.kept0 hq2
                  replace hKc := hKc.then0 hq2
                  go_wp2_with fail
                  have hq3 : Kp0 v2 (v2.alloc (.cells #[.slice A' fl c'] 22)) := (Kp.refl _ v2).alloc _
                  refine ⟨Later.of hq3, ?_⟩
                  have f10 := rdr_new1 (ca := c') hFl fa 22
                  generalize v2.heap.size = n10 at *
                  generalize v2.alloc (.cells #[.slice A' fl c'] 22) = v3 at *
                  replace fk := fk.kept0 hq3
                  replace fa := fa.kept0 hq3
                  replace ft := ft.kept0 hq3
                  replace f7 := f7.kept0 hq3
                  replace f8 := f8.kept0 hq3
                  replace hKc := hKc.then0 hq3
                  go_wp2_with fail
                  refine (tag_any (sum k) [F] A8 _ 32 c8 1 1 (length_sum k) (by omega) rfl (by omega) (by simp; omega) _ f8 f10).mono ?_
                  rintro e v4 ⟨r11, A11, c11, rfl, hO11, hq4, _⟩
                  rw [show [F].flatten = F by simp] at hO11
                  rw [tag_key k F (by omega)] at hO11
                  go_wp2_with fail
                  refine ⟨Later.of hq4, ?_⟩
                  have hC : ∀ u, (convert 22 9 (.slice A11 32 c11)).run Try.prog (later v4 u) = .ok (.string (bstr (tag k F))) (later v4 u) := fun u => run_conv 22 9 5 Try.underlying22 Try.underlying5 Try.underlying9 _ A11 (tag k F) 32 c11 (length_tag _ _) (hO11.rd.kept0 (later_kp _ u))
                  clear hO11
                  replace fk := fk.kept0 hq4
                  replace fa := fa.kept0 hq4
                  replace ft := ft.kept0 hq4
                  replace f7 := f7.kept0 hq4
                  replace f8 := f8.kept0 hq4
                  replace f10 := f10.kept0 hq4
                  replace hKc := hKc.then0 hq4
                  open Go.BigFrame in
                  repeat (go_big_quiet_step (fail))
                  refine wpQuiet_nil ?_
                  clear hC f7 f8 f10
                  replace hKc : Kp0 w v4.drew := hKc.drew
                  replace ft : RdB v4.drew A5 (tag k F) := ft
                  replace fa : RdB v4.drew A' F := fa
                  replace fk : RdB v4.drew K k := fk
                  have hC5 : ∀ u, (convert 22 9 (.slice A5 32 c5)).run Try.prog (later v4.drew u) = .ok (.string (bstr (tag k F))) (later v4.drew u) := fun u => run_conv 22 9 5 Try.underlying22 Try.underlying5 Try.underlying9 _ A5 (tag k F) 32 c5 (length_tag _ _) (ft.kept0 (later_kp _ u))
                  go_wp2_with fail
                  refine wp_region_kp 7 (.takes [0, 1, 2, 3] (.eff 4 (.eff 5 (.takes [6] (.stop))))) (by kernel_rfl) (by kernel_rfl) ?_
                  simp only [Plan.wp, pick, consO, List.getElem?_toArray, List.getElem?_cons_zero, List.getElem?_cons_succ, List.drop_succ_cons, List.drop_zero]
                  generalize v4.drew = Y at *
                  open Go.BigFrame in
                  repeat (go_big_quiet_step (fail))
                  refine wpQuiet_nil ?_
                  clear hC5
                  go_wp2_with fail
                  have hq51 : Kp0 Y (Y.alloc (.cells #[.slice A' fl c'] 22)) := (Kp.refl _ Y).alloc _
                  refine ⟨Later.of hq51, ?_⟩
                  have f10 := rdr_new1 (ca := c') hFl fa 22
                  generalize Y.heap.size = n10 at *
                  generalize Y.alloc (.cells #[.slice A' fl c'] 22) = v51 at *
                  replace fk := fk.kept0 hq51
                  replace fa := fa.kept0 hq51
                  replace ft := ft.kept0 hq51
                  replace hKc := hKc.then0 hq51
                  go_wp2_with fail
                  refine (tag_any (k) [F] K _ lk ck 1 1 hk (by omega) rfl (by omega) (by simp; omega) _ fk f10).mono ?_
                  rintro e v52 ⟨r11, A11, c11, rfl, hO11, hq52, _⟩
                  rw [show [F].flatten = F by simp] at hO11
                  go_wp2_with fail
                  refine ⟨Later.of hq52, ?_⟩
                  have hC : ∀ u, (convert 22 9 (.slice A11 32 c11)).run Try.prog (later v52 u) = .ok (.string (bstr (tag k F))) (later v52 u) := fun u => run_conv 22 9 5 Try.underlying22 Try.underlying5 Try.underlying9 _ A11 (tag k F) 32 c11 (length_tag _ _) (hO11.rd.kept0 (later_kp _ u))
                  clear hO11
                  replace fk := fk.kept0 hq52
                  replace fa := fa.kept0 hq52
                  replace ft := ft.kept0 hq52
                  replace f10 := f10.kept0 hq52
                  replace hKc := hKc.then0 hq52
                  open Go.BigFrame in
                  repeat (go_big_quiet_step (fail))
                  refine wpQuiet_nil ?_
                  go_wp2_with fail
                  go_ret
                  exact ⟨rfl, hKc⟩
                case q2 =>
                  go_wp2_with fail
                  have hq2 : Kp0 v1 (v1.alloc (.cells #[.slice A' fl c'] 22)) := (Kp.refl _ v1).alloc _
                  refine ⟨Later.of hq2, ?_⟩
                  have f10 := rdr_new1 (ca := c') hFl fa 22
                  generalize v1.heap.size = n10 at *
                  generalize v1.alloc (.cells #[.slice A' fl c'] 22) = v2 at *
                  replace fk := fk.kept0 hq2
                  replace fa := fa.kept0 hq2
                  replace ft := ft.kept0 hq2
                  replace f7 := f7.kept0 hq2
                  replace hKc := hKc.then0 hq2
                  go_wp2_with fail
                  refine (ssum_any [k] 1 1 _ rfl (by omega) (by simp; omega) _ f7).mono ?_
                  rintro e v3 ⟨r8, A8, c8, rfl, hO8, hq3, _⟩
                  rw [show [k].flatten = k by simp] at hO8
                  have f8 : RdB v3 A8 (sum k) := hO8.rd
                  clear hO8
                  go_wp2_with fail
                  refine ⟨Later.of hq3, ?_⟩
                  replace fk := fk.kept0 hq3
                  replace fa := fa.kept0 hq3
                  replace ft := ft.kept0 hq3
                  replace f7 := f7.kept0 hq3
                  replace f10 := f10.kept0 hq3
                  replace hKc := hKc.then0 hq3
                  go_wp2_with fail
                  refine (tag_any (sum k) [F] A8 _ 32 c8 1 1 (length_sum k) (by omega) rfl (by omega) (by simp; omega) _ f8 f10).mono ?_
                  rintro e v4 ⟨r11, A11, c11, rfl, hO11, hq4, _⟩
                  rw [show [F].flatten = F by simp] at hO11
                  rw [tag_key k F (by omega)] at hO11
                  go_wp2_with fail
                  refine ⟨Later.of hq4, ?_⟩
                  have hC : ∀ u, (convert 22 9 (.slice A11 32 c11)).run Try.prog (later v4 u) = .ok (.string (bstr (tag k F))) (later v4 u) := fun u => run_conv 22 9 5 Try.underlying22 Try.underlying5 Try.underlying9 _ A11 (tag k F) 32 c11 (length_tag _ _) (hO11.rd.kept0 (later_kp _ u))
                  clear hO11
                  replace fk := fk.kept0 hq4
                  replace fa := fa.kept0 hq4
                  replace ft := ft.kept0 hq4
                  replace f7 := f7.kept0 hq4
                  replace f10 := f10.kept0 hq4
                  replace f8 := f8.kept0 hq4
                  replace hKc := hKc.then0 hq4
                  open Go.BigFrame in
                  repeat (go_big_quiet_step (fail))
                  refine wpQuiet_nil ?_
                  clear hC f7 f10 f8
                  replace hKc : Kp0 w v4.drew := hKc.drew
                  replace ft : RdB v4.drew A5 (tag k F) := ft
                  replace fa : RdB v4.drew A' F := fa
                  replace fk : RdB v4.drew K k := fk
                  have hC5 : ∀ u, (convert 22 9 (.slice A5 32 c5)).run Try.prog (later v4.drew u) = .ok (.string (bstr (tag k F))) (later v4.drew u) := fun u => run_conv 22 9 5 Try.underlying22 Try.underlying5 Try.underlying9 _ A5 (tag k F) 32 c5 (length_tag _ _) (ft.kept0 (later_kp _ u))
                  go_wp2_with fail
                  refine wp_region_kp 7 (.takes [0, 1, 2, 3] (.eff 4 (.eff 5 (.takes [6] (.stop))))) (by kernel_rfl) (by kernel_rfl) ?_
                  simp only [Plan.wp, pick, consO, List.getElem?_toArray, List.getElem?_cons_zero, List.getElem?_cons_succ, List.drop_succ_cons, List.drop_zero]
                  generalize v4.drew = Y at *
                  open Go.BigFrame in
                  repeat (go_big_quiet_step (fail))
                  refine wpQuiet_nil ?_
                  clear hC5
                  go_wp2_with fail
                  have hq51 : Kp0 Y (Y.alloc (.cells #[.slice A' fl c'] 22)) := (Kp.refl _ Y).alloc _
                  refine ⟨Later.of hq51, ?_⟩
                  have f10 := rdr_new1 (ca := c') hFl fa 22
                  generalize Y.heap.size = n10 at *
                  generalize Y.alloc (.cells #[.slice A' fl c'] 22) = v51 at *
                  replace fk := fk.kept0 hq51
                  replace fa := fa.kept0 hq51
                  replace ft := ft.kept0 hq51
                  replace hKc := hKc.then0 hq51
                  go_wp2_with fail
                  refine (tag_any (k) [F] K _ lk ck 1 1 hk (by omega) rfl (by omega) (by simp; omega) _ fk f10).mono ?_
                  rintro e v52 ⟨r11, A11, c11, rfl, hO11, hq52, _⟩
                  rw [show [F].flatten = F by simp] at hO11
                  go_wp2_with fail
                  refine ⟨Later.of hq52, ?_⟩
                  have hC : ∀ u, (convert 22 9 (.slice A11 32 c11)).run Try.prog (later v52 u) = .ok (.string (bstr (tag k F))) (later v52 u) := fun u => run_conv 22 9 5 Try.underlying22 Try.underlying5 Try.underlying9 _ A11 (tag k F) 32 c11 (length_tag _ _) (hO11.rd.kept0 (later_kp _ u))
                  clear hO11
                  replace fk := fk.kept0 hq52
                  replace fa := fa.kept0 hq52
                  replace ft := ft.kept0 hq52
                  replace f10 := f10.kept0 hq52
                  replace hKc := hKc.then0 hq52
                  open Go.BigFrame in
                  repeat (go_big_quiet_step (fail))
                  refine wpQuiet_nil ?_
                  go_wp2_with fail
                  go_ret
                  exact ⟨rfl, hKc⟩
              case q1 =>
                go_wp2_with fail
                have hq1 : Kp0 W (W.alloc (.cells #[.slice A' fl c'] 22)) := (Kp.refl _ W).alloc _
                refine ⟨Later.of hq1, ?_⟩
                have f10 := rdr_new1 (ca := c') hFl fa 22
                generalize W.heap.size = n10 at *
                generalize W.alloc (.cells #[.slice A' fl c'] 22) = v1 at *
                replace fk := fk.kept0 hq1
                replace fa := fa.kept0 hq1
                replace ft := ft.kept0 hq1
                replace hKc := hKc.then0 hq1
                go_wp2_with fail
                have hq2 : Kp0 v1 (v1.alloc (.cells #[.slice K lk ck] 22)) := (Kp.refl _ v1).alloc _
                refine ⟨Later.of hq2, ?_⟩
                have f7 := rdr_new1 (ca := ck) hk fk 22
                generalize v1.heap.size = n7 at *
                generalize v1.alloc (.cells #[.slice K lk ck] 22) = v2 at *
                replace fk := fk.kept0 hq2
                replace fa := fa.kept0 hq2
                replace ft := ft.kept0 hq2
                replace f10 := f10.kept0 hq2
                replace hKc := hKc.then0 hq2
                go_wp2_with fail
                refine (ssum_any [k] 1 1 _ rfl (by omega) (by simp; omega) _ f7).mono ?_
                rintro e v3 ⟨r8, A8, c8, rfl, hO8, hq3, _⟩
                rw [show [k].flatten = k by simp] at hO8
                have f8 : RdB v3 A8 (sum k) := hO8.rd
                clear hO8
                go_wp2_with fail
                refine ⟨Later.of hq3, ?_⟩
                replace fk := fk.kept0 hq3
                replace fa := fa.kept0 hq3
                replace ft := ft.kept0 hq3
                replace f10 := f10.kept0 hq3
                replace f7 := f7.kept0 hq3
                replace hKc := hKc.then0 hq3
                go_wp2_with fail
                refine (tag_any (sum k) [F] A8 _ 32 c8 1 1 (length_sum k) (by omega) rfl (by omega) (by simp; omega) _ f8 f10).mono ?_
                rintro e v4 ⟨r11, A11, c11, rfl, hO11, hq4, _⟩
                rw [show [F].flatten = F by simp] at hO11
                rw [tag_key k F (by omega)] at hO11
                go_wp2_with fail
                refine ⟨Later.of hq4, ?_⟩
                have hC : ∀ u, (convert 22 9 (.slice A11 32 c11)).run Try.prog (later v4 u) = .ok (.string (bstr (tag k F))) (later v4 u) := fun u => run_conv 22 9 5 Try.underlying22 Try.underlying5 Try.underlying9 _ A11 (tag k F) 32 c11 (length_tag _ _) (hO11.rd.kept0 (later_kp _ u))
                clear hO11
                replace fk := fk.kept0 hq4
                replace fa := fa.kept0 hq4
                replace ft := ft.kept0 hq4
                replace f10 := f10.kept0 hq4
                replace f7 := f7.kept0 hq4
                replace f8 := f8.kept0 hq4
                replace hKc := hKc.then0 hq4
                open Go.BigFrame in
                repeat (go_big_quiet_step (fail))
                refine wpQuiet_nil ?_
                clear hC f10 f7 f8
                replace hKc : Kp0 w v4.drew := hKc.drew
                replace ft : RdB v4.drew A5 (tag k F) := ft
                replace fa : RdB v4.drew A' F := fa
                replace fk : RdB v4.drew K k := fk
                have hC5 : ∀ u, (convert 22 9 (.slice A5 32 c5)).run Try.prog (later v4.drew u) = .ok (.string (bstr (tag k F))) (later v4.drew u) := fun u => run_conv 22 9 5 Try.underlying22 Try.underlying5 Try.underlying9 _ A5 (tag k F) 32 c5 (length_tag _ _) (ft.kept0 (later_kp _ u))
                go_wp2_with fail
                refine wp_region_kp 7 (.takes [0, 1, 2, 3] (.eff 4 (.eff 5 (.takes [6] (.stop))))) (by kernel_rfl) (by kernel_rfl) ?_
                simp only [Plan.wp, pick, consO, List.getElem?_toArray, List.getElem?_cons_zero, List.getElem?_cons_succ, List.drop_succ_cons, List.drop_zero]
                generalize v4.drew = Y at *
                open Go.BigFrame in
                repeat (go_big_quiet_step (fail))
                refine wpQuiet_nil ?_
                clear hC5
                go_wp2_with fail
                have hq51 : Kp0 Y (Y.alloc (.cells #[.slice A' fl c'] 22)) := (Kp.refl _ Y).alloc _
                refine ⟨Later.of hq51, ?_⟩
                have f10 := rdr_new1 (ca := c') hFl fa 22
                generalize Y.heap.size = n10 at *
                generalize Y.alloc (.cells #[.slice A' fl c'] 22) = v51 at *
                replace fk := fk.kept0 hq51
                replace fa := fa.kept0 hq51
                replace ft := ft.kept0 hq51
                replace hKc := hKc.then0 hq51
                go_wp2_with fail
                refine (tag_any (k) [F] K _ lk ck 1 1 hk (by omega) rfl (by omega) (by simp; omega) _ fk f10).mono ?_
                rintro e v52 ⟨r11, A11, c11, rfl, hO11, hq52, _⟩
                rw [show [F].flatten = F by simp] at hO11
                go_wp2_with fail
                refine ⟨Later.of hq52, ?_⟩
                have hC : ∀ u, (convert 22 9 (.slice A11 32 c11)).run Try.prog (later v52 u) = .ok (.string (bstr (tag k F))) (later v52 u) := fun u => run_conv 22 9 5 Try.underlying22 Try.underlying5 Try.underlying9 _ A11 (tag k F) 32 c11 (length_tag _ _) (hO11.rd.kept0 (later_kp _ u))
                clear hO11
                replace fk := fk.kept0 hq52
                replace fa := fa.kept0 hq52
                replace ft := ft.kept0 hq52
                replace f10 := f10.kept0 hq52
                replace hKc := hKc.then0 hq52
                open Go.BigFrame in
                repeat (go_big_quiet_step (fail))
                refine wpQuiet_nil ?_
                go_wp2_with fail
                go_ret
                exact ⟨rfl, hKc⟩
            · have hd : decide ((64 : Int) < (lk : Int)) = false := decide_eq_false (by omega)
              open Go.BigFrame in
              repeat (go_big_quiet_step (fail))
              refine wpQuiet_nil ?_
              go_wp2_with fail
              refine ⟨Later.of (Kp.refl _ _), ?_⟩
              open Go.BigFrame in
              repeat (go_big_quiet_step (fail))
              refine wpQuiet_nil ?_
              clear hC5
              refine ⟨?p1, ?q1⟩
              case p1 =>
                go_wp2_with fail
                refine ⟨Later.of (Kp.refl _ _), ?_⟩
                refine ⟨?p2, ?q2⟩
                case p2 =>
                  go_wp2_with fail
                  refine ⟨Later.of (Kp.refl _ _), ?_⟩
                  go_wp2_with fail
                  refine ⟨Later.of (Kp.refl _ _), ?_⟩
                  go_wp2_with fail
                  refine ⟨Later.of (Kp.refl _ _), ?_⟩
                  open Go.BigFrame in
                  repeat (go_big_quiet_step (fail))
                  refine wpQuiet_nil ?_
                  replace hKc : Kp0 w W.drew := hKc.drew
                  replace ft : RdB W.drew A5 (tag k F) := ft
                  replace fa : RdB W.drew A' F := fa
                  replace fk : RdB W.drew K k := fk
                  have hC5 : ∀ u, (convert 22 9 (.slice A5 32 c5)).run Try.prog (later W.drew u) = .ok (.string (bstr (tag k F))) (later W.drew u) := fun u => run_conv 22 9 5 Try.underlying22 Try.underlying5 Try.underlying9 _ A5 (tag k F) 32 c5 (length_tag _ _) (ft.kept0 (later_kp _ u))
                  go_wp2_with fail
                  refine wp_region_kp 7 (.takes [0, 1, 2, 3] (.eff 4 (.eff 5 (.takes [6] (.stop))))) (by kernel_rfl) (by kernel_rfl) ?_
                  simp only [Plan.wp, pick, consO, List.getElem?_toArray, List.getElem?_cons_zero, List.getElem?_cons_succ, List.drop_succ_cons, List.drop_zero]
                  generalize W.drew = Y at *
                  open Go.BigFrame in
                  repeat (go_big_quiet_step (fail))
                  refine wpQuiet_nil ?_
                  clear hC5
                  go_wp2_with fail
                  have hq51 : Kp0 Y (Y.alloc (.cells #[.slice A' fl c'] 22)) := (Kp.refl _ Y).alloc _
                  refine ⟨Later.of hq51, ?_⟩
                  have f10 := rdr_new1 (ca := c') hFl fa 22
                  generalize Y.heap.size = n10 at *
                  generalize Y.alloc (.cells #[.slice A' fl c'] 22) = v51 at *
                  replace fk := fk.kept0 hq51
                  replace fa := fa.kept0 hq51
                  replace ft := ft.kept0 hq51
                  replace hKc := hKc.then0 hq51
                  go_wp2_with fail
                  refine (tag_any (k) [F] K _ lk ck 1 1 hk (by omega) rfl (by omega) (by simp; omega) _ fk f10).mono ?_
                  rintro e v52 ⟨r11, A11, c11, rfl, hO11, hq52, _⟩
                  rw [show [F].flatten = F by simp] at hO11
                  go_wp2_with fail
                  refine ⟨Later.of hq52, ?_⟩
                  have hC : ∀ u, (convert 22 9 (.slice A11 32 c11)).run Try.prog (later v52 u) = .ok (.string (bstr (tag k F))) (later v52 u) := fun u => run_conv 22 9 5 Try.underlying22 Try.underlying5 Try.underlying9 _ A11 (tag k F) 32 c11 (length_tag _ _) (hO11.rd.kept0 (later_kp _ u))
                  clear hO11
                  replace fk := fk.kept0 hq52
                  replace fa := fa.kept0 hq52
                  replace ft := ft.kept0 hq52
                  replace f10 := f10.kept0 hq52
                  replace hKc := hKc.then0 hq52
                  open Go.BigFrame in
                  repeat (go_big_quiet_step (fail))
                  refine wpQuiet_nil ?_
                  go_wp2_with fail
                  go_ret
                  exact ⟨rfl, hKc⟩
                case q2 =>
                  go_wp2_with fail
                  refine ⟨Later.of (Kp.refl _ _), ?_⟩
                  go_wp2_with fail
                  refine ⟨Later.of (Kp.refl _ _), ?_⟩
                  go_wp2_with fail
                  refine ⟨Later.of (Kp.refl _ _), ?_⟩
                  open Go.BigFrame in
                  repeat (go_big_quiet_step (fail))
                  refine wpQuiet_nil ?_
                  replace hKc : Kp0 w W.drew := hKc.drew
                  replace ft : RdB W.drew A5 (tag k F) := ft
                  replace fa : RdB W.drew A' F := fa
                  replace fk : RdB W.drew K k := fk
                  have hC5 : ∀ u, (convert 22 9 (.slice A5 32 c5)).run Try.prog (later W.drew u) = .ok (.string (bstr (tag k F))) (later W.drew u) := fun u => run_conv 22 9 5 Try.underlying22 Try.underlying5 Try.underlying9 _ A5 (tag k F) 32 c5 (length_tag _ _) (ft.kept0 (later_kp _ u))
                  go_wp2_with fail
                  refine wp_region_kp 7 (.takes [0, 1, 2, 3] (.eff 4 (.eff 5 (.takes [6] (.stop))))) (by kernel_rfl) (by kernel_rfl) ?_
                  simp only [Plan.wp, pick, consO, List.getElem?_toArray, List.getElem?_cons_zero, List.getElem?_cons_succ, List.drop_succ_cons, List.drop_zero]
                  generalize W.drew = Y at *
                  open Go.BigFrame in
                  repeat (go_big_quiet_step (fail))
                  refine wpQuiet_nil ?_
                  clear hC5
                  go_wp2_with fail
                  have hq51 : Kp0 Y (Y.alloc (.cells #[.slice A' fl c'] 22)) := (Kp.refl _ Y).alloc _
                  refine ⟨Later.of hq51, ?_⟩
                  have f10 := rdr_new1 (ca := c') hFl fa 22
                  generalize Y.heap.size = n10 at *
                  generalize Y.alloc (.cells #[.slice A' fl c'] 22) = v51 at *
                  replace fk := fk.kept0 hq51
                  replace fa := fa.kept0 hq51
                  replace ft := ft.kept0 hq51
                  replace hKc := hKc.then0 hq51
                  go_wp2_with fail
                  refine (tag_any (k) [F] K _ lk ck 1 1 hk (by omega) rfl (by omega) (by simp; omega) _ fk f10).mono ?_
                  rintro e v52 ⟨r11, A11, c11, rfl, hO11, hq52, _⟩
                  rw [show [F].flatten = F by simp] at hO11
                  go_wp2_with fail
                  refine ⟨Later.of hq52, ?_⟩
                  have hC : ∀ u, (convert 22 9 (.slice A11 32 c11)).run Try.prog (later v52 u) = .ok (.string (bstr (tag k F))) (later v52 u) := fun u => run_conv 22 9 5 Try.underlying22 Try.underlying5 Try.underlying9 _ A11 (tag k F) 32 c11 (length_tag _ _) (hO11.rd.kept0 (later_kp _ u))
                  clear hO11
                  replace fk := fk.kept0 hq52
                  replace fa := fa.kept0 hq52
                  replace ft := ft.kept0 hq52
                  replace f10 := f10.kept0 hq52
                  replace hKc := hKc.then0 hq52
                  open Go.BigFrame in
                  repeat (go_big_quiet_step (fail))
                  refine wpQuiet_nil ?_
                  go_wp2_with fail
                  go_ret
                  exact ⟨rfl, hKc⟩
              case q1 =>
                go_wp2_with fail
                refine ⟨Later.of (Kp.refl _ _), ?_⟩
                go_wp2_with fail
                refine ⟨Later.of (Kp.refl _ _), ?_⟩
                go_wp2_with fail
                refine ⟨Later.of (Kp.refl _ _), ?_⟩
                go_wp2_with fail
                refine ⟨Later.of (Kp.refl _ _), ?_⟩
                open Go.BigFrame in
                repeat (go_big_quiet_step (fail))
                refine wpQuiet_nil ?_
                replace hKc : Kp0 w W.drew := hKc.drew
                replace ft : RdB W.drew A5 (tag k F) := ft
                replace fa : RdB W.drew A' F := fa
                replace fk : RdB W.drew K k := fk
                have hC5 : ∀ u, (convert 22 9 (.slice A5 32 c5)).run Try.prog (later W.drew u) = .ok (.string (bstr (tag k F))) (later W.drew u) := fun u => run_conv 22 9 5 Try.underlying22 Try.underlying5 Try.underlying9 _ A5 (tag k F) 32 c5 (length_tag _ _) (ft.kept0 (later_kp _ u))
                go_wp2_with fail
                refine wp_region_kp 7 (.takes [0, 1, 2, 3] (.eff 4 (.eff 5 (.takes [6] (.stop))))) (by kernel_rfl) (by kernel_rfl) ?_
                simp only [Plan.wp, pick, consO, List.getElem?_toArray, List.getElem?_cons_zero, List.getElem?_cons_succ, List.drop_succ_cons, List.drop_zero]
                generalize W.drew = Y at *
                open Go.BigFrame in
                repeat (go_big_quiet_step (fail))
                refine wpQuiet_nil ?_
                clear hC5
                go_wp2_with fail
                have hq51 : Kp0 Y (Y.alloc (.cells #[.slice A' fl c'] 22)) := (Kp.refl _ Y).alloc _
                refine ⟨Later.of hq51, ?_⟩
                have f10 := rdr_new1 (ca := c') hFl fa 22
                generalize Y.heap.size = n10 at *
                generalize Y.alloc (.cells #[.slice A' fl c'] 22) = v51 at *
                replace fk := fk.kept0 hq51
                replace fa := fa.kept0 hq51
                replace ft := ft.kept0 hq51
                replace hKc := hKc.then0 hq51
                go_wp2_with fail
                refine (tag_any (k) [F] K _ lk ck 1 1 hk (by omega) rfl (by omega) (by simp; omega) _ fk f10).mono ?_
                rintro e v52 ⟨r11, A11, c11, rfl, hO11, hq52, _⟩
                rw [show [F].flatten = F by simp] at hO11
                go_wp2_with fail
                refine ⟨Later.of hq52, ?_⟩
                have hC : ∀ u, (convert 22 9 (.slice A11 32 c11)).run Try.prog (later v52 u) = .ok (.string (bstr (tag k F))) (later v52 u) := fun u => run_conv 22 9 5 Try.underlying22 Try.underlying5 Try.underlying9 _ A11 (tag k F) 32 c11 (length_tag _ _) (hO11.rd.kept0 (later_kp _ u))
                clear hO11
                replace fk := fk.kept0 hq52
                replace fa := fa.kept0 hq52
                replace ft := ft.kept0 hq52
                replace f10 := f10.kept0 hq52
                replace hKc := hKc.then0 hq52
                open Go.BigFrame in
                repeat (go_big_quiet_step (fail))
                refine wpQuiet_nil ?_
                go_wp2_with fail
                go_ret
                exact ⟨rfl, hKc⟩
      · go_enter Try.func8, Try.ntmps8
        go_wp2_with (first | (go_at_call 23; refine (lives04 _).mono ?_; rintro e w1 ⟨rfl, hk1⟩) | (go_at_call 24; refine (few_any [k] 1 1 _ rfl (by omega) _ (rdr_new1 hk (rk.kept0 hk1) 22)).mono ?_; rintro e w2 ⟨rfl, he⟩; rw [HQ1.out]; have hk2 : Kp0 w w2 := (by rw [he]; exact hk1.alloc (.cells #[.slice K lk ck] 22)); clear he hk1) | (go_at_call 24; refine (few_any xss n c2 B hn hn2 _ (rR.kept0 hk2)).mono ?_; rintro e w3 ⟨rfl, he⟩; rw [HQ2.out]; have hk3 : Kp0 w w3 := (by rw [he]; exact hk2); clear he hk2))
        go_ret
        exact ⟨rfl, hk3.then0 (by assumption)⟩
end Go.Proofs.Ytbkmfoelaapkaaa
