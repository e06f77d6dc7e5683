/- Chapter 4: Same, and the statement about it. -/
import Derived.Test.YtbkmfoelaapkaaaMacs
namespace Go.Proofs.Ytbkmfoelaapkaaa
open Go Go.RowKit Sha

/-- An operation whose guard holds is as one without a guard. -/
theorem wpl_want {P : Program} {w : World} {ops : Array Oper} {rest : List Oper} {o : Oper} {a : Act} {Q : Exit → Act → World → Prop} (hW : Region.wanted o (yielded ops a.tmps) = true) (h : wpList P ops Q ({ o with guard := none } :: rest) a w) : wpList P ops Q (o :: rest) a w := by
  unfold wpList at h ⊢
  rw [if_pos hW]
  rw [if_pos (show Region.wanted { o with guard := none } (yielded ops a.tmps) = true from rfl)] at h
  exact h
theorem bstr_inj {a b : List UInt8} (h : bstr a = bstr b) : a = b := by
  have h2 : (bstr a).data.toList = (bstr b).data.toList := by rw [h]
  simpa [bstr] using h2
theorem eq_bstr (a b : List UInt8) : ((bstr a).toList == (bstr b).toList) = decide (a = b) := by
  rw [ByteArray.toList_eq, ByteArray.toList_eq]
  show (a == b) = decide (a = b)
  by_cases h : a = b
  · rw [decide_eq_true h, h]; simp
  · rw [decide_eq_false h]; exact beq_eq_false_iff_ne.2 h
theorem unlike_zero (u x y : UInt8) : u ||| (x ^^^ y) = 0 ↔ u = 0 ∧ x = y := by
  rw [UInt8.or_eq_zero_iff, UInt8.xor_eq_zero_iff]
theorem take_eq_succ (a b : List UInt8) (k : Nat) (h : a.length = b.length) (hk : k < a.length) : a.take (k + 1) = b.take (k + 1) ↔ a.take k = b.take k ∧ a.getD k 0 = b.getD k 0 := by
  have ha : a[k]? = some (a.getD k 0) := by rw [List.getD_eq_getElem?_getD, List.getElem?_eq_getElem hk]; rfl
  have hb : b[k]? = some (b.getD k 0) := by rw [List.getD_eq_getElem?_getD, List.getElem?_eq_getElem (by omega)]; rfl
  rw [List.take_add_one, List.take_add_one, ha, hb]
  constructor
  · intro e
    have e' := List.append_inj' e rfl
    exact ⟨e'.1, by simpa using e'.2⟩
  · rintro ⟨e1, e2⟩
    rw [e1, e2]
theorem toNat_zero_iff (u : UInt8) : ((u.toNat : Int) = 0) ↔ u = 0 := by
  constructor
  · intro h
    exact UInt8.toNat_inj.1 (by simpa using h)
  · rintro rfl; rfl

set_option maxRecDepth 100000 in
set_option maxHeartbeats 1000000 in
theorem same_any (a b : List UInt8) (A B : Option Addr) (m n c c2 : Nat) (hm : a.length = m) (hn : b.length = n) (hm2 : m ≤ 9223372036854775807) (hn2 : n ≤ 9223372036854775807) (w : World) (ra : RdB w A a) (rb : RdB w B b) :
    Calls Try.prog 28 #[.slice A m c, .slice B n c2] w fun e w' => e = .returned (.bool (decide (a = b))) ∧ Kp0 w w' := by
  by_cases hmn : m = n
  · go_enter Try.func28, Try.ntmps28
    go_wp2
    go_loopg [5, 14] m (fun kq v5 v14 wr => ∃ (k : Nat) (u : UInt8), k ≤ m ∧ kq = m - k ∧ v14 = .int .i64 (k : Int) ∧ v5 = .int .u8 (u.toNat : Int) ∧ (u = 0 ↔ a.take k = b.take k) ∧ Kp0 w wr)
    case atStart => exact ⟨0, 0, by omega, rfl, rfl, rfl, by simp, Kp.refl _ w⟩
    case round =>
      obtain ⟨k, u, hk, rfl, rfl, rfl, hu, hK⟩ := hrel
      have HU := Lib.hid hu
      clear hu
      by_cases hlt : k < m
      · obtain ⟨b1, o1, rfl, hca⟩ := RdB.at_ (ra.kept0 hK) (j := k) (by omega)
        obtain ⟨b2, o2, rfl, hcb⟩ := RdB.at_ (rb.kept0 hK) (j := k) (by omega)
        have hts := take_eq_succ a b k (by omega) (by omega)
        generalize a.getD k 0 = x at *
        generalize b.getD k 0 = y at *
        have HT := Lib.hid hts
        clear hts
        go_wp2
        refine wp_region_eq 10 (.takes [0, 1, 2, 3, 4, 5, 6, 7, 8, 9] (.stop)) (by kernel_rfl) (by kernel_rfl) ?_
        simp only [Plan.wp, pick, consO, List.getElem?_toArray, List.getElem?_cons_zero, List.getElem?_cons_succ, List.drop_succ_cons, List.drop_zero]
        open Go.BigFrame in
        repeat (go_big_quiet_step (fail))
        refine wpQuiet_nil ?_
        go_wp2
        go_roundg (m - (k + 1))
        case measure => omega
        case rel =>
          refine ⟨k + 1, u ||| (x ^^^ y), by omega, rfl, by go_num, val_int ?_, ?_, hK.drew⟩
          · simp only [u8_xor_, u8_or_]
          · rw [unlike_zero, HU.out, HT.out]
      · obtain rfl : k = m := by omega
        have hz := toNat_zero_iff u
        have h := HU.out
        rw [List.take_of_length_le (by omega), List.take_of_length_le (by omega)] at h
        by_cases hab : a = b
        · have h0 : (u.toNat : Int) = 0 := hz.2 (h.2 hab)
          rw [h0]
          clear h hz
          go_wp2
          go_ret
          exact ⟨by rw [decide_eq_true hab]; rfl, hK⟩
        · have h0 : ¬ (u.toNat : Int) = 0 := fun e => hab (h.1 (hz.1 e))
          clear h hz
          go_wp2
          go_ret
          refine ⟨?_, hK⟩
          show Ending.returned (.bool ((u.toNat : Int) == 0)) = _
          rw [decide_eq_false hab, beq_eq_false_iff_ne.2 h0]
  · go_enter Try.func28, Try.ntmps28
    go_wp2
    go_ret
    refine ⟨?_, Kp.refl _ _⟩
    have hab : ¬ a = b := fun e => hmn (by rw [← hm, ← hn, e])
    rw [decide_eq_false hab]
    rfl

set_option maxRecDepth 100000 in
set_option maxHeartbeats 1000000 in
theorem sames_walk (a b : List UInt8) (A B : Option Addr) (m n c c2 : Nat) (hm : a.length = m) (hn : b.length = n) (w : World) (ra : RdB w A a) (rb : RdB w B b) :
    Calls Try.prog 9 #[.slice A m c, .slice B n c2] w fun e w' => e = .returned (.bool true) ∧ Kp0 w w' := by
  by_cases h3 : m ≤ 3000 ∧ n ≤ 3000
  · obtain ⟨h3, h4⟩ := h3
    go_enter Try.func9, Try.ntmps9
    go_wp2_with (go_at_call 23; refine (lives04 _).mono ?_; rintro e w1 ⟨rfl, hk1⟩)
    have ra1 : RdB w1.drew A a := ra.kept0 hk1.drew
    have rb1 : RdB w1.drew B b := rb.kept0 hk1.drew
    have hK1 : Kp0 w w1.drew := hk1.drew
    have hCa : ∀ u, (convert 22 9 (.slice A m c)).run Try.prog (later w1.drew u) = .ok (.string (bstr a)) (later w1.drew u) := fun u => run_conv 22 9 5 Try.underlying22 Try.underlying5 Try.underlying9 _ A a m c hm (ra1.kept0 (later_kp _ u))
    have hCb : ∀ u, (convert 22 9 (.slice B n c2)).run Try.prog (later w1.drew u) = .ok (.string (bstr b)) (later w1.drew u) := fun u => run_conv 22 9 5 Try.underlying22 Try.underlying5 Try.underlying9 _ B b n c2 hn (rb1.kept0 (later_kp _ u))
    clear hk1
    refine wp_region_kp 14 (.takes [0, 1, 3, 4, 5, 6, 7] (.eff 2 (.takes [8, 9, 10, 12] (.eff 11 (.eff 13 (.stop)))))) (by kernel_rfl) (by kernel_rfl) ?_
    simp only [Plan.wp, pick, consO, List.getElem?_toArray, List.getElem?_cons_zero, List.getElem?_cons_succ, List.drop_succ_cons, List.drop_zero]
    generalize w1.drew = W at *
    open Go.BigFrame in
    repeat (go_big_quiet_step (fail))
    refine wpQuiet_nil ?_
    clear hCa hCb
    go_wp2_with fail
    refine (same_any a b A B m n c c2 hm hn (by omega) (by omega) _ ra1 rb1).mono ?_
    rintro e w2 ⟨rfl, hk2⟩
    go_wp2_with fail
    refine ⟨Later.of hk2, ?_⟩
    have hE := eq_bstr a b
    rw [hE]
    clear hE
    generalize decide (a = b) = q
    open Go.BigFrame in
    repeat (go_big_quiet_step (fail))
    refine wpQuiet_nil ?_
    go_wp2_with fail
    have hk3 : Kp0 w2 (w2.alloc (.cells #[] 5)) := (Kp.refl _ w2).alloc _
    refine ⟨Later.of hk3, ?_⟩
    have hK3 : Kp0 w (w2.alloc (.cells #[] 5)) := (hK1.then0 hk2).then0 hk3
    refine wpl_want rfl ?_
    refine wpl_append _ rfl (.tmp 29) (.tmp 30) 22 rfl 5 (.int .u8 0) 1 Try.underlying22 (by kernel_rfl) rfl w.heap.size none _ 0 0 [] rfl (Own.empty _ _ _ _ _) A m c (bv a) rfl ((length_bv a).trans hm) (ra.kept0 hK3) (one_bv _) hK3.size (by simp only [maxLen]; omega) (by omega) ?_
    intro A2 c3 r2 w3 hO2 hk4 hr2
    have hk4' : Kp0 _ w3 := hk4.mono fun _ _ h => by cases h
    refine ⟨rfl, Later.of hk4', ?_⟩
    rw [List.nil_append, Nat.zero_add] at hO2
    have hK4 := hK3.then0 hk4'
    rw [Nat.zero_add]
    go_wp2_with fail
    refine (same_any a a A A2 m m c c3 hm hm (by omega) (by omega) _ (ra.kept0 hK4) hO2.rd).mono ?_
    rintro e w4 ⟨rfl, hk5⟩
    rw [decide_eq_true (rfl : a = a)]
    go_wp2_with fail
    go_ret
    exact ⟨rfl, hK4.then0 hk5⟩
  · go_enter Try.func9, Try.ntmps9
    go_wp2_with (go_at_call 23; refine (lives04 _).mono ?_; rintro e w1 ⟨rfl, hk1⟩)
    all_goals (first | (go_ret; exact ⟨rfl, Kp.then0 (by assumption) (by assumption)⟩) | omega)
end Go.Proofs.Ytbkmfoelaapkaaa
