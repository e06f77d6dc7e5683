/- SlabScars: what wakes shows a scar, or the burnt face. -/
import Derived.Test.YthnjhhohfhnhgaaSlabM
import Derived.Test.YthnjhhohfhnhgaaSlabArg
namespace Go.Proofs.Ythnjhhohfhnhgaa
open Go Go.RowKit
set_option maxRecDepth 10000

theorem elems_osw {HL : List (Nat × Blk')} {b g m lo : Nat} {xs : List UInt8} (hb : hget HL b = some ⟨g, 1, lo, pb xs⟩) (hl : xs.length = m) : elemsOf (hget HL) (.os b g 0 m) = some (m, pb xs, [b]) := by
  simp only [elemsOf, hb]
  rw [if_pos trivial, List.drop_zero, List.take_of_length_le (by rw [length_pb]; omega)]
theorem newS_getD (k a : Nat) : (newS k).l.getD a secD = secD := by
  simp only [newS, List.getD_eq_getElem?_getD, List.getElem?_replicate]
  split <;> rfl
theorem plain77 : Ctr Try.prog 13 [.int .u8 77] (.ro false 64 (pb (plain 77))) := plain_ctr 77
theorem plain_own0 : CtrO Try.prog 13 [] [.int .u8 0] (.os 0 0 0 64) [some ⟨0, 1, 0, pb (plain 0)⟩] := plain_own 0
theorem ink_at {s : Slb} (h : s.endless = true) {n : Nat} (h1 : n < s.l.length) {p : List UInt8} (hp : p.length = 64) : (s.ink n p).2.l[n]? = some ⟨(s.l.getD n secD).burnt, some p⟩ ∧ (s.ink n p).2.endless = true := by
  rw [ink_endless h h1 hp]
  refine ⟨?_, struck_endless h⟩
  simp [Slb.setInk, struck_l, h1]
theorem burn_at {s : Slb} (h : s.endless = true) (h0 : 0 < s.l.length) {j : Nat} {c : Option (List UInt8)} {b : List UInt8} (hj : s.l[j]? = some ⟨c, some b⟩) : s.burn.2.l[j]? = some ⟨some b, none⟩ ∧ s.burn.2.endless = true := by
  have hb : s.burn = Slb.burnGo s.l.length 0 s := by unfold Slb.burn; rw [if_neg (by simp [look_endless h (n := 0) (by omega) (by omega)])]
  rw [hb]
  have := (List.getElem?_eq_some_iff.1 hj).1
  exact ⟨burnGo_at _ _ h hj (Nat.zero_le _) (by omega), (burnGo_endless _ _ h).2⟩
theorem inkL_none {s : Slb} (h : ∀ x ∈ s.l, x.ink = none) (j : Nat) : s.inkL j = [] := by
  unfold Slb.inkL
  refine List.filter_eq_nil_iff.2 fun i _ => ?_
  rw [List.getD_eq_getElem?_getD]
  cases hq : s.l[i]? with
  | none => simp
  | some x =>
    have := h x (List.mem_of_getElem? hq)
    simp [this]
theorem wake_inks (s : Slb) (M : List Scr) : ∀ x ∈ (s.wake M).l, x.ink = none := by
  intro x hx
  obtain ⟨i, hi, rfl⟩ := List.mem_mapIdx.1 hx
  rfl
theorem inked0 (s : Slb) (hw : s.wf) (h : ∀ x ∈ s.l, x.ink = none) : SlabC 21 s [] (.ro false 0 []) s 1 := by
  have := inked_ctr s hw
  rw [inkL_none h] at this
  exact this
theorem wake3 (s : Slb) (hw : s.wf) (a o : Nat) (b : List UInt8) : SlabC 16 s [.ro false 3 [.int .i64 (a : Int), bsl b, .int .i64 (o : Int), .ro false 64 (pb (plain 77)), .int .i64 (a : Int), bsl b]] (.tup []) (s.wake (table [((a : Int), b), ((o : Int), plain 77), ((a : Int), b)])) 3 :=
  wake_ctr s hw [((a : Int), b), ((o : Int), plain 77), ((a : Int), b)] (by simp)
theorem look3 (a o : Nat) (b : List UInt8) : lookM (a : Int) (table [((a : Int), b), ((o : Int), plain 77), ((a : Int), b)]) = some b := by
  by_cases h : (o : Int) = a
  · simp [table, ups, lookM, h]
  · simp [table, ups, lookM, h, Ne.symm h]
theorem wake_at {s : Slb} {M : List Scr} {a : Nat} {c : Option (List UInt8)} {p b : List UInt8} (h : s.l[a]? = some ⟨c, some p⟩) (hM : lookM (a : Int) M = some b) : (s.wake M).face a = pad b := by
  refine face_at ?_
  simp [Slb.wake, List.getElem?_mapIdx, h, hM]
theorem wake_no {s : Slb} {a : Nat} {c p : List UInt8} (h : s.l[a]? = some ⟨some c, some p⟩) : (s.wake []).face a = c := by
  refine face_at ?_
  simp [Slb.wake, List.getElem?_mapIdx, h, lookM]
set_option maxHeartbeats 1000000 in
theorem scars_ctr (at_ other : Int) (x y : UInt8) (scarred : Bool) (b : List UInt8) (hb : b.length ≤ 9223372036854775807) :
    Ctr Try.prog 5 [.int .i64 at_, .int .i64 other, .int .u8 (x.toNat : Int), .int .u8 (y.toNat : Int), .bool scarred, bsl b] (.bool true) := by
  refine ctr_go 126 [(0, .int .i64 at_), (1, .int .i64 other), (2, .int .u8 (x.toNat : Int)), (3, .int .u8 (y.toNat : Int)), (4, .bool scarred), (5, bsl b)] Try.func5 rfl rfl rfl (all_cons rfl (all_cons rfl (all_cons rfl (all_cons rfl (all_cons rfl (all_cons rfl all_nil)))))) ?_
  have w0 : (newS 16).wf := newS_wf (by decide)
  (repeat refine lwp_seq_k fun K hK => ?_)
  refine lw_region ?_
  refine RL.qa (oAssign rfl rfl ev_a) ?_
  refine RL.done ?_
  refine hK _ ?_
  clear hK K
  (repeat refine lwp_seq_k fun K hK => ?_)
  refine lw_region ?_
  refine RL.wsa (oNew 16 (by decide) rfl rfl ev_a evs_a rfl) ?_
  refine RL.qa (oAssign rfl rfl ev_a) ?_
  refine RL.done ?_
  refine hK _ ?_
  clear hK K
  by_cases hlen : b.length ≤ 1000
  · (repeat refine lwp_seq_k fun K hK => ?_)
    refine lw_region ?_
    refine RL.qa (oCallC rfl rfl ev_a evs_a (lives_ctr)) ?_
    refine RL.qa (oNot rfl rfl ev_a) ?_
    refine RL.qa (oMove rfl rfl ev_a) ?_
    first | (refine RL.skipA ?_) | (refine RL.wantA ?_; refine RL.qa (oMove rfl rfl ev_a) ?_)
    first | (refine RL.skipA ?_) | (refine RL.wantA ?_; refine RL.qa (oEqNil (neg := false) rfl rfl ev_a rfl (by rfl) rfl (by rfl)) ?_)
    first | (refine RL.qa (oPickT rfl rfl ev_a ev_a) ?_) | (refine RL.qa (oPickF rfl rfl ev_a ev_a) ?_)
    refine RL.qa (oMove rfl rfl ev_a) ?_
    first | (refine RL.skipA ?_) | (refine RL.wantA ?_; refine RL.qa (oMove rfl rfl ev_a) ?_)
    first | (refine RL.skipA ?_) | (refine RL.wantA ?_; (first | (refine RL.qa (oLen rfl rfl rfl ev_a (by rfl)) ?_) | (refine RL.qa (oLenStr rfl rfl rfl ev_a) ?_) | (refine RL.qa (oLenArr rfl rfl rfl) ?_)))
    refine RL.wantA ?_
    refine RL.qa (oBin (v := .bool false) rfl rfl ev_a ev_a (by simp [binI]; omega)) ?_
    first | (refine RL.qa (oPickT rfl rfl ev_a ev_a) ?_) | (refine RL.qa (oPickF rfl rfl ev_a ev_a) ?_)
    refine RL.done ?_
    refine hK _ ?_
    clear hK K
    (repeat refine lwp_seq_k fun K hK => ?_)
    refine lw_condF (by (first | (apply ev_tmp; ((repeat (apply Lk.there; focus rfl)); exact Lk.here)) | exact ev_cint | exact ev_cbool | exact ev_cnilp | exact ev_cnils | exact ev_func | exact ev_cstr | exact ev_cnilf | exact ev_cnili)) ?_
    refine lwp_skip (hK _ ?_)
    clear hK K
    obtain ⟨u, hu, hu2⟩ := u64_rem at_ 16 (by decide)
    obtain ⟨v, hv, hv2⟩ := u64_rem other 16 (by decide)
    (repeat refine lwp_seq_k fun K hK => ?_)
    refine lw_region ?_
    refine RL.qa (oMove rfl rfl ev_a) ?_
    refine RL.qa (oConv rfl rfl ev_a) ?_
    rw [hu]
    first | (refine RL.qa (oRemN rfl rfl rfl ev_a ev_a (by omega) (by omega)) ?_) | (refine RL.qa (oBin rfl rfl ev_a ev_a (by rfl)) ?_)
    first | (refine RL.qa (oConvI rfl rfl ev_a (wrap_i64 (by omega) (by omega))) ?_) | (refine RL.qa (oConvI rfl rfl ev_a (wrap_u64 (by omega) (by omega))) ?_) | (refine RL.qa (oConvI rfl rfl ev_a (wrap_u32 (by omega) (by omega))) ?_) | (refine RL.qa (oConvI rfl rfl ev_a (wrap_u8 (by omega) (by omega))) ?_) | (refine RL.qa (oStrOf rfl rfl ev_a (by rfl) (by first | rfl | assumption | (simp; first | done | fail))) ?_)
    refine RL.qa (oMove rfl rfl ev_a) ?_
    refine RL.qa (oConv rfl rfl ev_a) ?_
    rw [hv]
    first | (refine RL.qa (oRemN rfl rfl rfl ev_a ev_a (by omega) (by omega)) ?_) | (refine RL.qa (oBin rfl rfl ev_a ev_a (by rfl)) ?_)
    first | (refine RL.qa (oConvI rfl rfl ev_a (wrap_i64 (by omega) (by omega))) ?_) | (refine RL.qa (oConvI rfl rfl ev_a (wrap_u64 (by omega) (by omega))) ?_) | (refine RL.qa (oConvI rfl rfl ev_a (wrap_u32 (by omega) (by omega))) ?_) | (refine RL.qa (oConvI rfl rfl ev_a (wrap_u8 (by omega) (by omega))) ?_) | (refine RL.qa (oStrOf rfl rfl ev_a (by rfl) (by first | rfl | assumption | (simp; first | done | fail))) ?_)
    refine RL.qa (oAssign rfl rfl ev_a) ?_
    refine RL.qa (oAssign rfl rfl ev_a) ?_
    refine RL.done ?_
    refine hK _ ?_
    clear hK K
    have ha : u % 16 < 16 := Nat.mod_lt _ (by decide)
    have ho : v % 16 < 16 := Nat.mod_lt _ (by decide)
    have hua : (u : Int) % 16 = ((u % 16 : Nat) : Int) := by omega
    have hva : (v : Int) % 16 = ((v % 16 : Nat) : Int) := by omega
    rw [hua, hva]
    generalize u % 16 = a at *
    generalize v % 16 = o at *
    clear hu hu2 hv hv2 hua hva
    have l0 : (newS 16).l.length = 16 := by simp [newS]
    obtain ⟨a1, a2⟩ := ink_at (s := newS 16) rfl (n := a) (by omega) (plain_len x)
    have e0 : ((newS 16).l.getD a secD).burnt = none := by rw [newS_getD]
    rw [e0] at a1
    have w1 := ink_wf w0 a (plain x)
    have l1 : ((newS 16).ink a (plain x)).2.l.length = 16 := by rw [ink_len, l0]
    (repeat refine lwp_seq_k fun K hK => ?_)
    refine lw_region ?_
    refine RL.qa (oMove rfl rfl ev_a) ?_
    refine RL.qa (oMove rfl rfl ev_a) ?_
    refine RL.qa (oMove rfl rfl ev_a) ?_
    refine RL.qa (oCallC rfl rfl ev_a evs_a (plain_ctr x)) ?_
    refine RL.wsa (oSlab 1 0 rfl rfl ev_a evs_a (ink_plain (newS 16) w0 a x) rfl rfl rfl (by rfl) rfl) ?_
    refine RL.done ?_
    refine hK _ ?_
    clear hK K
    generalize ((newS 16).ink a (plain x)).2 = s1 at *
    obtain ⟨b1, b2⟩ := ink_at a2 (n := o) (by omega) (plain_len x)
    have w2 := ink_wf w1 o (plain x)
    have l2 : (s1.ink o (plain x)).2.l.length = 16 := by rw [ink_len, l1]
    have a3 : ∃ c, (s1.ink o (plain x)).2.l[a]? = some ⟨c, some (plain x)⟩ := by
      by_cases h : o = a
      · subst h; exact ⟨_, b1⟩
      · exact ⟨_, ink_keep a1 (by omega) _⟩
    (repeat refine lwp_seq_k fun K hK => ?_)
    refine lw_region ?_
    refine RL.qa (oMove rfl rfl ev_a) ?_
    refine RL.qa (oMove rfl rfl ev_a) ?_
    refine RL.qa (oMove rfl rfl ev_a) ?_
    refine RL.qa (oCallC rfl rfl ev_a evs_a (plain_ctr x)) ?_
    refine RL.wsa (oSlab 1 0 rfl rfl ev_a evs_a (ink_plain s1 w1 o x) rfl rfl rfl (by rfl) rfl) ?_
    refine RL.done ?_
    refine hK _ ?_
    clear hK K
    generalize (s1.ink o (plain x)).2 = s2 at *
    obtain ⟨c, a3⟩ := a3
    have w3 := burn_wf w2
    have l3 : s2.burn.2.l.length = 16 := by rw [burn_len, l2]
    obtain ⟨c1, c2⟩ := burn_at b2 (by omega) a3
    obtain ⟨c3, _⟩ := burn_at b2 (by omega) b1
    (repeat refine lwp_seq_k fun K hK => ?_)
    refine lw_region ?_
    refine RL.qa (oMove rfl rfl ev_a) ?_
    refine RL.wsa (oSlab 1 0 rfl rfl ev_a evs_a (burn_ctr s2 w2) rfl rfl rfl (by rfl) rfl) ?_
    refine RL.done ?_
    refine hK _ ?_
    clear hK K
    generalize s2.burn.2 = s3 at *
    obtain ⟨d1, d2⟩ := ink_at c2 (n := a) (by omega) (plain_len y)
    have e3 : (s3.l.getD a secD).burnt = some (plain x) := by rw [List.getD_eq_getElem?_getD, c1]; rfl
    rw [e3] at d1
    have w4 := ink_wf w3 a (plain y)
    have l4 : (s3.ink a (plain y)).2.l.length = 16 := by rw [ink_len, l3]
    have d3 : o ≠ a → (s3.ink a (plain y)).2.l[o]? = some ⟨some (plain x), none⟩ := fun h => ink_keep c3 (by omega) _
    (repeat refine lwp_seq_k fun K hK => ?_)
    refine lw_region ?_
    refine RL.qa (oMove rfl rfl ev_a) ?_
    refine RL.qa (oMove rfl rfl ev_a) ?_
    refine RL.qa (oMove rfl rfl ev_a) ?_
    refine RL.qa (oCallC rfl rfl ev_a evs_a (plain_ctr y)) ?_
    refine RL.wsa (oSlab 1 0 rfl rfl ev_a evs_a (ink_plain s3 w3 a y) rfl rfl rfl (by rfl) rfl) ?_
    refine RL.done ?_
    refine hK _ ?_
    clear hK K
    generalize (s3.ink a (plain y)).2 = s4 at *
    clear a1 a2 b1 b2 a3 c1 c2 c3 e0 e3 w0 w1 w2 w3 l0 l1 l2 l3
    refine lwp_keep (TL' := [(13, _), (0, _), (1, _), (2, _), (3, _), (4, _), (5, _)]) (HL' := [(0, _), (1, _)]) (all_cons (by ((repeat (apply Lk.there; focus rfl)); exact Lk.here)) (all_cons (by ((repeat (apply Lk.there; focus rfl)); exact Lk.here)) (all_cons (by ((repeat (apply Lk.there; focus rfl)); exact Lk.here)) (all_cons (by ((repeat (apply Lk.there; focus rfl)); exact Lk.here)) (all_cons (by ((repeat (apply Lk.there; focus rfl)); exact Lk.here)) (all_cons (by ((repeat (apply Lk.there; focus rfl)); exact Lk.here)) (all_cons (by ((repeat (apply Lk.there; focus rfl)); exact Lk.here)) all_nil))))))) (all_cons (by rfl) (all_cons (by rfl) all_nil)) ?_
    (repeat refine lwp_seq_k fun K hK => ?_)
    refine lw_region ?_
    refine RL.qa (oMove rfl rfl ev_a) ?_
    refine RL.wsa (oFresh rfl rfl ev_a evs_a (plain_own x)) ?_
    refine RL.qa (oAssign rfl rfl ev_a) ?_
    refine RL.done ?_
    refine hK _ ?_
    clear hK K
    (repeat refine lwp_seq_k fun K hK => ?_)
    refine lw_region ?_
    refine RL.qa (oMove rfl rfl ev_a) ?_
    refine RL.done ?_
    refine hK _ ?_
    clear hK K
    cases scarred with
    | true =>
      (repeat refine lwp_seq_k fun K hK => ?_)
      refine lw_condT (by (first | (apply ev_tmp; ((repeat (apply Lk.there; focus rfl)); exact Lk.here)) | exact ev_cint | exact ev_cbool | exact ev_cnilp | exact ev_cnils | exact ev_func | exact ev_cstr | exact ev_cnilf | exact ev_cnili)) ?_
      (repeat refine lwp_seq_k fun K hK => ?_)
      refine lw_region ?_
      refine RL.qa (oMove rfl rfl ev_a) ?_
      refine RL.qa (oMove rfl rfl ev_a) ?_
      refine RL.qa (oMove rfl rfl ev_a) ?_
      refine RL.qa (oBuildS (ys := [.int .i64 a, bsl b]) rfl rfl evp_a (by rfl)) ?_
      refine RL.qa (oMove rfl rfl ev_a) ?_
      refine RL.qa (oCallC rfl rfl ev_a evs_a (plain77)) ?_
      refine RL.qa (oBuildS (ys := [.int .i64 o, .ro false 64 (pb (plain 77))]) rfl rfl evp_a (by rfl)) ?_
      refine RL.qa (oMove rfl rfl ev_a) ?_
      refine RL.qa (oMove rfl rfl ev_a) ?_
      refine RL.qa (oBuildS (ys := [.int .i64 a, bsl b]) rfl rfl evp_a (by rfl)) ?_
      refine RL.qa (oBuildSlice (ys := [.int .i64 a, bsl b, .int .i64 o, .ro false 64 (pb (plain 77)), .int .i64 a, bsl b]) rfl rfl rfl (by decide) (by decide) evp_a (by rfl)) ?_
      refine RL.wsa (oSlab 1 0 rfl rfl ev_a evs_a (wake3 s4 w4 a o b) rfl rfl rfl (by rfl) rfl) ?_
      refine RL.done ?_
      refine hK _ ?_
      clear hK K
      (repeat refine lwp_seq_k fun K hK => ?_)
      refine lw_region ?_
      refine RL.wsa (oFresh rfl rfl ev_a evs_a (plain_own0)) ?_
      refine RL.qa (oAssign rfl rfl ev_a) ?_
      refine RL.done ?_
      refine hK _ ?_
      clear hK K
      (repeat refine lwp_seq_k fun K hK => ?_)
      refine lw_region ?_
      refine RL.qa (oMove rfl rfl ev_a) ?_
      refine RL.qa (oMove rfl rfl ev_a) ?_
      refine RL.wa (oCopy rfl rfl rfl ev_a (by rfl) (by omega) (by decide) ev_a (by rfl) (by exact length_pb b) (leaf_pb b) (zs := pb (pad b)) (copy_pad b)) ?_
      refine RL.done ?_
      refine hK _ ?_
      clear hK K
      have w5 := wake_wf w4 (table [((a : Int), b), ((o : Int), plain 77), ((a : Int), b)])
      have la : (s4.wake (table [((a : Int), b), ((o : Int), plain 77), ((a : Int), b)])).lookE a = 0 := look_endless rfl (by omega) (by rw [wake_len]; omega)
      have lo : (s4.wake (table [((a : Int), b), ((o : Int), plain 77), ((a : Int), b)])).lookE o = 0 := look_endless rfl (by omega) (by rw [wake_len]; omega)
      have fa : (s4.wake (table [((a : Int), b), ((o : Int), plain 77), ((a : Int), b)])).face (Int.toNat a) = pad b := wake_at d1 (look3 a o b)
      have fo : o ≠ a → (s4.wake (table [((a : Int), b), ((o : Int), plain 77), ((a : Int), b)])).face (Int.toNat o) = plain x := fun h => face_at (wake_keep _ (d3 h))
      have ik := wake_inks s4 (table [((a : Int), b), ((o : Int), plain 77), ((a : Int), b)])
      have wl := pad_len b
      generalize s4.wake (table [((a : Int), b), ((o : Int), plain 77), ((a : Int), b)]) = s5 at *
      refine lwp_keep (TL' := [(13, _), (0, _), (1, _), (2, _), (14, _)]) (HL' := [(0, _), (1, _), (7, _)]) (all_cons (by ((repeat (apply Lk.there; focus rfl)); exact Lk.here)) (all_cons (by ((repeat (apply Lk.there; focus rfl)); exact Lk.here)) (all_cons (by ((repeat (apply Lk.there; focus rfl)); exact Lk.here)) (all_cons (by ((repeat (apply Lk.there; focus rfl)); exact Lk.here)) (all_cons (by ((repeat (apply Lk.there; focus rfl)); exact Lk.here)) all_nil))))) (all_cons (by rfl) (all_cons (by rfl) (all_cons (by rfl) all_nil))) ?_
      (repeat refine lwp_seq_k fun K hK => ?_)
      refine lw_region ?_
      refine RL.qa (oMove rfl rfl ev_a) ?_
      refine RL.qa (oMove rfl rfl ev_a) ?_
      refine RL.wsa (oSlab 1 0 rfl rfl ev_a evs_a (face_ok s5 a w5 la) rfl rfl rfl (by rfl) rfl) ?_
      refine RL.qa (oMove rfl rfl ev_a) ?_
      refine RL.qa (oExtract rfl rfl ev_a (by rfl)) ?_
      refine RL.qa (oExtract rfl rfl ev_a (by rfl)) ?_
      refine RL.qa (oAssign rfl rfl ev_a) ?_
      refine RL.qa (oAssign rfl rfl ev_a) ?_
      refine RL.done ?_
      refine hK _ ?_
      clear hK K
      rw [fa]
      (repeat refine lwp_seq_k fun K hK => ?_)
      refine lw_region ?_
      refine RL.qa (oMove rfl rfl ev_a) ?_
      refine RL.qa (oMove rfl rfl ev_a) ?_
      refine RL.wsa (oSlab 1 0 rfl rfl ev_a evs_a (face_ok s5 o w5 lo) rfl rfl rfl (by rfl) rfl) ?_
      refine RL.qa (oMove rfl rfl ev_a) ?_
      refine RL.qa (oExtract rfl rfl ev_a (by rfl)) ?_
      refine RL.qa (oExtract rfl rfl ev_a (by rfl)) ?_
      refine RL.qa (oAssign rfl rfl ev_a) ?_
      refine RL.qa (oAssign rfl rfl ev_a) ?_
      refine RL.done ?_
      refine hK _ ?_
      clear hK K
      by_cases hoa : o = a
      · (repeat refine lwp_seq_k fun K hK => ?_)
        refine lw_region_any (by kernel_rfl) ?_
        refine RL.qa (oMove rfl rfl ev_a) ?_
        first | (refine RL.qa (oBin rfl rfl ev_a ev_a (by rfl)) ?_) | (refine RL.qa (oStr rfl rfl ev_a ev_a (by rfl)) ?_)
        refine RL.qa (oMove rfl rfl ev_a) ?_
        first | (refine RL.skipA ?_) | (refine RL.wantA ?_; refine RL.qa (oMove rfl rfl ev_a) ?_)
        first | (refine RL.skipA ?_) | (refine RL.wantA ?_; (first | (refine RL.qa (oBin rfl rfl ev_a ev_a (by rfl)) ?_) | (refine RL.qa (oStr rfl rfl ev_a ev_a (by rfl)) ?_)))
        first | (refine RL.qa (oPickT rfl rfl ev_a ev_a) ?_) | (refine RL.qa (oPickF rfl rfl ev_a ev_a) ?_)
        refine RL.qa (oMove rfl rfl ev_a) ?_
        first | (refine RL.skipA ?_) | (refine RL.wantA ?_; refine RL.qa (oMove rfl rfl ev_a) ?_)
        refine RL.wantA ?_
        refine RL.qa (oStrOf (xs := pad b) rfl rfl ev_a (by rfl) wl) ?_
        first | (refine RL.skipA ?_) | (refine RL.wantA ?_; refine RL.qa (oMove rfl rfl ev_a) ?_)
        refine RL.wantA ?_
        refine RL.qa (oStrOf rfl rfl ev_a (elems_osw (xs := pad b) (by rfl) wl) wl) ?_
        refine RL.wantA ?_
        refine RL.qa (oStr (v := .bool true) rfl rfl ev_a ev_a (by simp)) ?_
        first | (refine RL.qa (oPickT rfl rfl ev_a ev_a) ?_) | (refine RL.qa (oPickF rfl rfl ev_a ev_a) ?_)
        refine RL.qa (oMove rfl rfl ev_a) ?_
        first | (refine RL.skipA ?_) | (refine RL.wantA ?_; refine RL.qa (oMove rfl rfl ev_a) ?_)
        first | (refine RL.skipA ?_) | (refine RL.wantA ?_; refine RL.qa (oMove rfl rfl ev_a) ?_)
        refine RL.wantA ?_
        refine RL.qa (oBin (v := .bool true) rfl rfl ev_a ev_a (by simp [binI, hoa])) ?_
        first | (refine RL.skipA ?_) | (refine RL.wantA ?_; refine RL.qa (oMove rfl rfl ev_a) ?_)
        first | (refine RL.skipA ?_) | (refine RL.wantA ?_; refine RL.qa (oMove rfl rfl ev_a) ?_)
        first | (refine RL.skipA ?_) | (refine RL.wantA ?_; (first | (refine RL.qa (oConvI rfl rfl ev_a (wrap_i64 (by omega) (by omega))) ?_) | (refine RL.qa (oConvI rfl rfl ev_a (wrap_u64 (by omega) (by omega))) ?_) | (refine RL.qa (oConvI rfl rfl ev_a (wrap_u32 (by omega) (by omega))) ?_) | (refine RL.qa (oConvI rfl rfl ev_a (wrap_u8 (by omega) (by omega))) ?_) | (refine RL.qa (oStrOf rfl rfl ev_a (by rfl) (by first | rfl | assumption | (simp; first | done | fail))) ?_)))
        first | (refine RL.skipA ?_) | (refine RL.wantA ?_; refine RL.qa (oMove rfl rfl ev_a) ?_)
        first | (refine RL.skipA ?_) | (refine RL.wantA ?_; refine RL.qa (oCallC rfl rfl ev_a evs_a (plain_ctr x)) ?_)
        first | (refine RL.skipA ?_) | (refine RL.wantA ?_; (first | (refine RL.qa (oConvI rfl rfl ev_a (wrap_i64 (by omega) (by omega))) ?_) | (refine RL.qa (oConvI rfl rfl ev_a (wrap_u64 (by omega) (by omega))) ?_) | (refine RL.qa (oConvI rfl rfl ev_a (wrap_u32 (by omega) (by omega))) ?_) | (refine RL.qa (oConvI rfl rfl ev_a (wrap_u8 (by omega) (by omega))) ?_) | (refine RL.qa (oStrOf rfl rfl ev_a (by rfl) (by first | rfl | assumption | (simp; first | done | fail))) ?_)))
        first | (refine RL.skipA ?_) | (refine RL.wantA ?_; (first | (refine RL.qa (oBin rfl rfl ev_a ev_a (by rfl)) ?_) | (refine RL.qa (oStr rfl rfl ev_a ev_a (by rfl)) ?_)))
        first | (refine RL.skipA ?_) | (refine RL.wantA ?_; (first | (refine RL.qa (oPickT rfl rfl ev_a ev_a) ?_) | (refine RL.qa (oPickF rfl rfl ev_a ev_a) ?_)))
        first | (refine RL.qa (oPickT rfl rfl ev_a ev_a) ?_) | (refine RL.qa (oPickF rfl rfl ev_a ev_a) ?_)
        refine RL.qa (oMove rfl rfl ev_a) ?_
        first | (refine RL.skipA ?_) | (refine RL.wantA ?_; refine RL.qa (oMove rfl rfl ev_a) ?_)
        first | (refine RL.skipA ?_) | (refine RL.wantA ?_; refine RL.wsa (oSlab 1 0 rfl rfl ev_a evs_a (inked0 s5 w5 ik) rfl rfl rfl (by rfl) rfl) ?_)
        first | (refine RL.skipA ?_) | (refine RL.wantA ?_; (first | (refine RL.qa (oLen rfl rfl rfl ev_a (by rfl)) ?_) | (refine RL.qa (oLenStr rfl rfl rfl ev_a) ?_) | (refine RL.qa (oLenArr rfl rfl rfl) ?_)))
        first | (refine RL.skipA ?_) | (refine RL.wantA ?_; (first | (refine RL.qa (oBin rfl rfl ev_a ev_a (by rfl)) ?_) | (refine RL.qa (oStr rfl rfl ev_a ev_a (by rfl)) ?_)))
        first | (refine RL.qa (oPickT rfl rfl ev_a ev_a) ?_) | (refine RL.qa (oPickF rfl rfl ev_a ev_a) ?_)
        refine RL.qa (oAssign rfl rfl ev_a) ?_
        refine RL.done ⟨by kernel_rfl, ?_⟩
        refine hK _ ?_
        clear hK K
        exact lwp_ret ⟨.inr rfl, ret1c (r0 := .bool true) rfl (by ((repeat (apply Lk.there; focus rfl)); exact Lk.here))⟩
      · rw [fo hoa]
        (repeat refine lwp_seq_k fun K hK => ?_)
        refine lw_region_any (by kernel_rfl) ?_
        refine RL.qa (oMove rfl rfl ev_a) ?_
        first | (refine RL.qa (oBin rfl rfl ev_a ev_a (by rfl)) ?_) | (refine RL.qa (oStr rfl rfl ev_a ev_a (by rfl)) ?_)
        refine RL.qa (oMove rfl rfl ev_a) ?_
        first | (refine RL.skipA ?_) | (refine RL.wantA ?_; refine RL.qa (oMove rfl rfl ev_a) ?_)
        first | (refine RL.skipA ?_) | (refine RL.wantA ?_; (first | (refine RL.qa (oBin rfl rfl ev_a ev_a (by rfl)) ?_) | (refine RL.qa (oStr rfl rfl ev_a ev_a (by rfl)) ?_)))
        first | (refine RL.qa (oPickT rfl rfl ev_a ev_a) ?_) | (refine RL.qa (oPickF rfl rfl ev_a ev_a) ?_)
        refine RL.qa (oMove rfl rfl ev_a) ?_
        first | (refine RL.skipA ?_) | (refine RL.wantA ?_; refine RL.qa (oMove rfl rfl ev_a) ?_)
        refine RL.wantA ?_
        refine RL.qa (oStrOf (xs := pad b) rfl rfl ev_a (by rfl) wl) ?_
        first | (refine RL.skipA ?_) | (refine RL.wantA ?_; refine RL.qa (oMove rfl rfl ev_a) ?_)
        refine RL.wantA ?_
        refine RL.qa (oStrOf rfl rfl ev_a (elems_osw (xs := pad b) (by rfl) wl) wl) ?_
        refine RL.wantA ?_
        refine RL.qa (oStr (v := .bool true) rfl rfl ev_a ev_a (by simp)) ?_
        first | (refine RL.qa (oPickT rfl rfl ev_a ev_a) ?_) | (refine RL.qa (oPickF rfl rfl ev_a ev_a) ?_)
        refine RL.qa (oMove rfl rfl ev_a) ?_
        first | (refine RL.skipA ?_) | (refine RL.wantA ?_; refine RL.qa (oMove rfl rfl ev_a) ?_)
        first | (refine RL.skipA ?_) | (refine RL.wantA ?_; refine RL.qa (oMove rfl rfl ev_a) ?_)
        refine RL.wantA ?_
        refine RL.qa (oBin (v := .bool false) rfl rfl ev_a ev_a (by simp [binI]; omega)) ?_
        first | (refine RL.skipA ?_) | (refine RL.wantA ?_; refine RL.qa (oMove rfl rfl ev_a) ?_)
        first | (refine RL.skipA ?_) | (refine RL.wantA ?_; refine RL.qa (oMove rfl rfl ev_a) ?_)
        first | (refine RL.skipA ?_) | (refine RL.wantA ?_; (first | (refine RL.qa (oConvI rfl rfl ev_a (wrap_i64 (by omega) (by omega))) ?_) | (refine RL.qa (oConvI rfl rfl ev_a (wrap_u64 (by omega) (by omega))) ?_) | (refine RL.qa (oConvI rfl rfl ev_a (wrap_u32 (by omega) (by omega))) ?_) | (refine RL.qa (oConvI rfl rfl ev_a (wrap_u8 (by omega) (by omega))) ?_) | (refine RL.qa (oStrOf rfl rfl ev_a (by rfl) (by first | rfl | assumption | (simp; first | done | fail))) ?_)))
        first | (refine RL.skipA ?_) | (refine RL.wantA ?_; refine RL.qa (oMove rfl rfl ev_a) ?_)
        first | (refine RL.skipA ?_) | (refine RL.wantA ?_; refine RL.qa (oCallC rfl rfl ev_a evs_a (plain_ctr x)) ?_)
        first | (refine RL.skipA ?_) | (refine RL.wantA ?_; (first | (refine RL.qa (oConvI rfl rfl ev_a (wrap_i64 (by omega) (by omega))) ?_) | (refine RL.qa (oConvI rfl rfl ev_a (wrap_u64 (by omega) (by omega))) ?_) | (refine RL.qa (oConvI rfl rfl ev_a (wrap_u32 (by omega) (by omega))) ?_) | (refine RL.qa (oConvI rfl rfl ev_a (wrap_u8 (by omega) (by omega))) ?_) | (refine RL.qa (oStrOf rfl rfl ev_a (by rfl) (by first | rfl | assumption | (simp; first | done | fail))) ?_)))
        refine RL.wantA ?_
        refine RL.qa (oStr (v := .bool true) rfl rfl ev_a ev_a (by simp)) ?_
        first | (refine RL.skipA ?_) | (refine RL.wantA ?_; (first | (refine RL.qa (oPickT rfl rfl ev_a ev_a) ?_) | (refine RL.qa (oPickF rfl rfl ev_a ev_a) ?_)))
        first | (refine RL.qa (oPickT rfl rfl ev_a ev_a) ?_) | (refine RL.qa (oPickF rfl rfl ev_a ev_a) ?_)
        refine RL.qa (oMove rfl rfl ev_a) ?_
        first | (refine RL.skipA ?_) | (refine RL.wantA ?_; refine RL.qa (oMove rfl rfl ev_a) ?_)
        first | (refine RL.skipA ?_) | (refine RL.wantA ?_; refine RL.wsa (oSlab 1 0 rfl rfl ev_a evs_a (inked0 s5 w5 ik) rfl rfl rfl (by rfl) rfl) ?_)
        first | (refine RL.skipA ?_) | (refine RL.wantA ?_; (first | (refine RL.qa (oLen rfl rfl rfl ev_a (by rfl)) ?_) | (refine RL.qa (oLenStr rfl rfl rfl ev_a) ?_) | (refine RL.qa (oLenArr rfl rfl rfl) ?_)))
        first | (refine RL.skipA ?_) | (refine RL.wantA ?_; (first | (refine RL.qa (oBin rfl rfl ev_a ev_a (by rfl)) ?_) | (refine RL.qa (oStr rfl rfl ev_a ev_a (by rfl)) ?_)))
        first | (refine RL.qa (oPickT rfl rfl ev_a ev_a) ?_) | (refine RL.qa (oPickF rfl rfl ev_a ev_a) ?_)
        refine RL.qa (oAssign rfl rfl ev_a) ?_
        refine RL.done ⟨by kernel_rfl, ?_⟩
        refine hK _ ?_
        clear hK K
        exact lwp_ret ⟨.inr rfl, ret1c (r0 := .bool true) rfl (by ((repeat (apply Lk.there; focus rfl)); exact Lk.here))⟩
    | false =>
      (repeat refine lwp_seq_k fun K hK => ?_)
      refine lw_condF (by (first | (apply ev_tmp; ((repeat (apply Lk.there; focus rfl)); exact Lk.here)) | exact ev_cint | exact ev_cbool | exact ev_cnilp | exact ev_cnils | exact ev_func | exact ev_cstr | exact ev_cnilf | exact ev_cnili)) ?_
      (repeat refine lwp_seq_k fun K hK => ?_)
      refine lw_region ?_
      refine RL.qa (oMove rfl rfl ev_a) ?_
      refine RL.wsa (oSlab 1 0 rfl rfl ev_a evs_a (wake_nil s4 w4) rfl rfl rfl (by rfl) rfl) ?_
      refine RL.done ?_
      refine hK _ ?_
      clear hK K
      have w5 := wake_wf w4 []
      have la : (s4.wake []).lookE a = 0 := look_endless rfl (by omega) (by rw [wake_len]; omega)
      have lo : (s4.wake []).lookE o = 0 := look_endless rfl (by omega) (by rw [wake_len]; omega)
      have fa : (s4.wake []).face (Int.toNat a) = plain x := wake_no d1
      have fo : o ≠ a → (s4.wake []).face (Int.toNat o) = plain x := fun h => face_at (wake_keep _ (d3 h))
      have ik := wake_inks s4 []
      have wl := plain_len x
      generalize s4.wake [] = s5 at *
      refine lwp_keep (TL' := [(13, _), (0, _), (1, _), (2, _), (14, _)]) (HL' := [(0, _), (1, _), (3, _)]) (all_cons (by ((repeat (apply Lk.there; focus rfl)); exact Lk.here)) (all_cons (by ((repeat (apply Lk.there; focus rfl)); exact Lk.here)) (all_cons (by ((repeat (apply Lk.there; focus rfl)); exact Lk.here)) (all_cons (by ((repeat (apply Lk.there; focus rfl)); exact Lk.here)) (all_cons (by ((repeat (apply Lk.there; focus rfl)); exact Lk.here)) all_nil))))) (all_cons (by rfl) (all_cons (by rfl) (all_cons (by rfl) all_nil))) ?_
      (repeat refine lwp_seq_k fun K hK => ?_)
      refine lw_region ?_
      refine RL.qa (oMove rfl rfl ev_a) ?_
      refine RL.qa (oMove rfl rfl ev_a) ?_
      refine RL.wsa (oSlab 1 0 rfl rfl ev_a evs_a (face_ok s5 a w5 la) rfl rfl rfl (by rfl) rfl) ?_
      refine RL.qa (oMove rfl rfl ev_a) ?_
      refine RL.qa (oExtract rfl rfl ev_a (by rfl)) ?_
      refine RL.qa (oExtract rfl rfl ev_a (by rfl)) ?_
      refine RL.qa (oAssign rfl rfl ev_a) ?_
      refine RL.qa (oAssign rfl rfl ev_a) ?_
      refine RL.done ?_
      refine hK _ ?_
      clear hK K
      rw [fa]
      (repeat refine lwp_seq_k fun K hK => ?_)
      refine lw_region ?_
      refine RL.qa (oMove rfl rfl ev_a) ?_
      refine RL.qa (oMove rfl rfl ev_a) ?_
      refine RL.wsa (oSlab 1 0 rfl rfl ev_a evs_a (face_ok s5 o w5 lo) rfl rfl rfl (by rfl) rfl) ?_
      refine RL.qa (oMove rfl rfl ev_a) ?_
      refine RL.qa (oExtract rfl rfl ev_a (by rfl)) ?_
      refine RL.qa (oExtract rfl rfl ev_a (by rfl)) ?_
      refine RL.qa (oAssign rfl rfl ev_a) ?_
      refine RL.qa (oAssign rfl rfl ev_a) ?_
      refine RL.done ?_
      refine hK _ ?_
      clear hK K
      by_cases hoa : o = a
      · (repeat refine lwp_seq_k fun K hK => ?_)
        refine lw_region_any (by kernel_rfl) ?_
        refine RL.qa (oMove rfl rfl ev_a) ?_
        first | (refine RL.qa (oBin rfl rfl ev_a ev_a (by rfl)) ?_) | (refine RL.qa (oStr rfl rfl ev_a ev_a (by rfl)) ?_)
        refine RL.qa (oMove rfl rfl ev_a) ?_
        first | (refine RL.skipA ?_) | (refine RL.wantA ?_; refine RL.qa (oMove rfl rfl ev_a) ?_)
        first | (refine RL.skipA ?_) | (refine RL.wantA ?_; (first | (refine RL.qa (oBin rfl rfl ev_a ev_a (by rfl)) ?_) | (refine RL.qa (oStr rfl rfl ev_a ev_a (by rfl)) ?_)))
        first | (refine RL.qa (oPickT rfl rfl ev_a ev_a) ?_) | (refine RL.qa (oPickF rfl rfl ev_a ev_a) ?_)
        refine RL.qa (oMove rfl rfl ev_a) ?_
        first | (refine RL.skipA ?_) | (refine RL.wantA ?_; refine RL.qa (oMove rfl rfl ev_a) ?_)
        refine RL.wantA ?_
        refine RL.qa (oStrOf (xs := plain x) rfl rfl ev_a (by rfl) wl) ?_
        first | (refine RL.skipA ?_) | (refine RL.wantA ?_; refine RL.qa (oMove rfl rfl ev_a) ?_)
        refine RL.wantA ?_
        refine RL.qa (oStrOf rfl rfl ev_a (elems_osw (xs := plain x) (by rfl) wl) wl) ?_
        refine RL.wantA ?_
        refine RL.qa (oStr (v := .bool true) rfl rfl ev_a ev_a (by simp)) ?_
        first | (refine RL.qa (oPickT rfl rfl ev_a ev_a) ?_) | (refine RL.qa (oPickF rfl rfl ev_a ev_a) ?_)
        refine RL.qa (oMove rfl rfl ev_a) ?_
        first | (refine RL.skipA ?_) | (refine RL.wantA ?_; refine RL.qa (oMove rfl rfl ev_a) ?_)
        first | (refine RL.skipA ?_) | (refine RL.wantA ?_; refine RL.qa (oMove rfl rfl ev_a) ?_)
        refine RL.wantA ?_
        refine RL.qa (oBin (v := .bool true) rfl rfl ev_a ev_a (by simp [binI, hoa])) ?_
        first | (refine RL.skipA ?_) | (refine RL.wantA ?_; refine RL.qa (oMove rfl rfl ev_a) ?_)
        first | (refine RL.skipA ?_) | (refine RL.wantA ?_; refine RL.qa (oMove rfl rfl ev_a) ?_)
        first | (refine RL.skipA ?_) | (refine RL.wantA ?_; (first | (refine RL.qa (oConvI rfl rfl ev_a (wrap_i64 (by omega) (by omega))) ?_) | (refine RL.qa (oConvI rfl rfl ev_a (wrap_u64 (by omega) (by omega))) ?_) | (refine RL.qa (oConvI rfl rfl ev_a (wrap_u32 (by omega) (by omega))) ?_) | (refine RL.qa (oConvI rfl rfl ev_a (wrap_u8 (by omega) (by omega))) ?_) | (refine RL.qa (oStrOf rfl rfl ev_a (by rfl) (by first | rfl | assumption | (simp; first | done | fail))) ?_)))
        first | (refine RL.skipA ?_) | (refine RL.wantA ?_; refine RL.qa (oMove rfl rfl ev_a) ?_)
        first | (refine RL.skipA ?_) | (refine RL.wantA ?_; refine RL.qa (oCallC rfl rfl ev_a evs_a (plain_ctr x)) ?_)
        first | (refine RL.skipA ?_) | (refine RL.wantA ?_; (first | (refine RL.qa (oConvI rfl rfl ev_a (wrap_i64 (by omega) (by omega))) ?_) | (refine RL.qa (oConvI rfl rfl ev_a (wrap_u64 (by omega) (by omega))) ?_) | (refine RL.qa (oConvI rfl rfl ev_a (wrap_u32 (by omega) (by omega))) ?_) | (refine RL.qa (oConvI rfl rfl ev_a (wrap_u8 (by omega) (by omega))) ?_) | (refine RL.qa (oStrOf rfl rfl ev_a (by rfl) (by first | rfl | assumption | (simp; first | done | fail))) ?_)))
        first | (refine RL.skipA ?_) | (refine RL.wantA ?_; (first | (refine RL.qa (oBin rfl rfl ev_a ev_a (by rfl)) ?_) | (refine RL.qa (oStr rfl rfl ev_a ev_a (by rfl)) ?_)))
        first | (refine RL.skipA ?_) | (refine RL.wantA ?_; (first | (refine RL.qa (oPickT rfl rfl ev_a ev_a) ?_) | (refine RL.qa (oPickF rfl rfl ev_a ev_a) ?_)))
        first | (refine RL.qa (oPickT rfl rfl ev_a ev_a) ?_) | (refine RL.qa (oPickF rfl rfl ev_a ev_a) ?_)
        refine RL.qa (oMove rfl rfl ev_a) ?_
        first | (refine RL.skipA ?_) | (refine RL.wantA ?_; refine RL.qa (oMove rfl rfl ev_a) ?_)
        first | (refine RL.skipA ?_) | (refine RL.wantA ?_; refine RL.wsa (oSlab 1 0 rfl rfl ev_a evs_a (inked0 s5 w5 ik) rfl rfl rfl (by rfl) rfl) ?_)
        first | (refine RL.skipA ?_) | (refine RL.wantA ?_; (first | (refine RL.qa (oLen rfl rfl rfl ev_a (by rfl)) ?_) | (refine RL.qa (oLenStr rfl rfl rfl ev_a) ?_) | (refine RL.qa (oLenArr rfl rfl rfl) ?_)))
        first | (refine RL.skipA ?_) | (refine RL.wantA ?_; (first | (refine RL.qa (oBin rfl rfl ev_a ev_a (by rfl)) ?_) | (refine RL.qa (oStr rfl rfl ev_a ev_a (by rfl)) ?_)))
        first | (refine RL.qa (oPickT rfl rfl ev_a ev_a) ?_) | (refine RL.qa (oPickF rfl rfl ev_a ev_a) ?_)
        refine RL.qa (oAssign rfl rfl ev_a) ?_
        refine RL.done ⟨by kernel_rfl, ?_⟩
        refine hK _ ?_
        clear hK K
        exact lwp_ret ⟨.inr rfl, ret1c (r0 := .bool true) rfl (by ((repeat (apply Lk.there; focus rfl)); exact Lk.here))⟩
      · rw [fo hoa]
        (repeat refine lwp_seq_k fun K hK => ?_)
        refine lw_region_any (by kernel_rfl) ?_
        refine RL.qa (oMove rfl rfl ev_a) ?_
        first | (refine RL.qa (oBin rfl rfl ev_a ev_a (by rfl)) ?_) | (refine RL.qa (oStr rfl rfl ev_a ev_a (by rfl)) ?_)
        refine RL.qa (oMove rfl rfl ev_a) ?_
        first | (refine RL.skipA ?_) | (refine RL.wantA ?_; refine RL.qa (oMove rfl rfl ev_a) ?_)
        first | (refine RL.skipA ?_) | (refine RL.wantA ?_; (first | (refine RL.qa (oBin rfl rfl ev_a ev_a (by rfl)) ?_) | (refine RL.qa (oStr rfl rfl ev_a ev_a (by rfl)) ?_)))
        first | (refine RL.qa (oPickT rfl rfl ev_a ev_a) ?_) | (refine RL.qa (oPickF rfl rfl ev_a ev_a) ?_)
        refine RL.qa (oMove rfl rfl ev_a) ?_
        first | (refine RL.skipA ?_) | (refine RL.wantA ?_; refine RL.qa (oMove rfl rfl ev_a) ?_)
        refine RL.wantA ?_
        refine RL.qa (oStrOf (xs := plain x) rfl rfl ev_a (by rfl) wl) ?_
        first | (refine RL.skipA ?_) | (refine RL.wantA ?_; refine RL.qa (oMove rfl rfl ev_a) ?_)
        refine RL.wantA ?_
        refine RL.qa (oStrOf rfl rfl ev_a (elems_osw (xs := plain x) (by rfl) wl) wl) ?_
        refine RL.wantA ?_
        refine RL.qa (oStr (v := .bool true) rfl rfl ev_a ev_a (by simp)) ?_
        first | (refine RL.qa (oPickT rfl rfl ev_a ev_a) ?_) | (refine RL.qa (oPickF rfl rfl ev_a ev_a) ?_)
        refine RL.qa (oMove rfl rfl ev_a) ?_
        first | (refine RL.skipA ?_) | (refine RL.wantA ?_; refine RL.qa (oMove rfl rfl ev_a) ?_)
        first | (refine RL.skipA ?_) | (refine RL.wantA ?_; refine RL.qa (oMove rfl rfl ev_a) ?_)
        refine RL.wantA ?_
        refine RL.qa (oBin (v := .bool false) rfl rfl ev_a ev_a (by simp [binI]; omega)) ?_
        first | (refine RL.skipA ?_) | (refine RL.wantA ?_; refine RL.qa (oMove rfl rfl ev_a) ?_)
        first | (refine RL.skipA ?_) | (refine RL.wantA ?_; refine RL.qa (oMove rfl rfl ev_a) ?_)
        first | (refine RL.skipA ?_) | (refine RL.wantA ?_; (first | (refine RL.qa (oConvI rfl rfl ev_a (wrap_i64 (by omega) (by omega))) ?_) | (refine RL.qa (oConvI rfl rfl ev_a (wrap_u64 (by omega) (by omega))) ?_) | (refine RL.qa (oConvI rfl rfl ev_a (wrap_u32 (by omega) (by omega))) ?_) | (refine RL.qa (oConvI rfl rfl ev_a (wrap_u8 (by omega) (by omega))) ?_) | (refine RL.qa (oStrOf rfl rfl ev_a (by rfl) (by first | rfl | assumption | (simp; first | done | fail))) ?_)))
        first | (refine RL.skipA ?_) | (refine RL.wantA ?_; refine RL.qa (oMove rfl rfl ev_a) ?_)
        first | (refine RL.skipA ?_) | (refine RL.wantA ?_; refine RL.qa (oCallC rfl rfl ev_a evs_a (plain_ctr x)) ?_)
        first | (refine RL.skipA ?_) | (refine RL.wantA ?_; (first | (refine RL.qa (oConvI rfl rfl ev_a (wrap_i64 (by omega) (by omega))) ?_) | (refine RL.qa (oConvI rfl rfl ev_a (wrap_u64 (by omega) (by omega))) ?_) | (refine RL.qa (oConvI rfl rfl ev_a (wrap_u32 (by omega) (by omega))) ?_) | (refine RL.qa (oConvI rfl rfl ev_a (wrap_u8 (by omega) (by omega))) ?_) | (refine RL.qa (oStrOf rfl rfl ev_a (by rfl) (by first | rfl | assumption | (simp; first | done | fail))) ?_)))
        refine RL.wantA ?_
        refine RL.qa (oStr (v := .bool true) rfl rfl ev_a ev_a (by simp)) ?_
        first | (refine RL.skipA ?_) | (refine RL.wantA ?_; (first | (refine RL.qa (oPickT rfl rfl ev_a ev_a) ?_) | (refine RL.qa (oPickF rfl rfl ev_a ev_a) ?_)))
        first | (refine RL.qa (oPickT rfl rfl ev_a ev_a) ?_) | (refine RL.qa (oPickF rfl rfl ev_a ev_a) ?_)
        refine RL.qa (oMove rfl rfl ev_a) ?_
        first | (refine RL.skipA ?_) | (refine RL.wantA ?_; refine RL.qa (oMove rfl rfl ev_a) ?_)
        first | (refine RL.skipA ?_) | (refine RL.wantA ?_; refine RL.wsa (oSlab 1 0 rfl rfl ev_a evs_a (inked0 s5 w5 ik) rfl rfl rfl (by rfl) rfl) ?_)
        first | (refine RL.skipA ?_) | (refine RL.wantA ?_; (first | (refine RL.qa (oLen rfl rfl rfl ev_a (by rfl)) ?_) | (refine RL.qa (oLenStr rfl rfl rfl ev_a) ?_) | (refine RL.qa (oLenArr rfl rfl rfl) ?_)))
        first | (refine RL.skipA ?_) | (refine RL.wantA ?_; (first | (refine RL.qa (oBin rfl rfl ev_a ev_a (by rfl)) ?_) | (refine RL.qa (oStr rfl rfl ev_a ev_a (by rfl)) ?_)))
        first | (refine RL.qa (oPickT rfl rfl ev_a ev_a) ?_) | (refine RL.qa (oPickF rfl rfl ev_a ev_a) ?_)
        refine RL.qa (oAssign rfl rfl ev_a) ?_
        refine RL.done ⟨by kernel_rfl, ?_⟩
        refine hK _ ?_
        clear hK K
        exact lwp_ret ⟨.inr rfl, ret1c (r0 := .bool true) rfl (by ((repeat (apply Lk.there; focus rfl)); exact Lk.here))⟩
  · (repeat refine lwp_seq_k fun K hK => ?_)
    refine lw_region ?_
    refine RL.qa (oCallC rfl rfl ev_a evs_a (lives_ctr)) ?_
    refine RL.qa (oNot rfl rfl ev_a) ?_
    refine RL.qa (oMove rfl rfl ev_a) ?_
    first | (refine RL.skipA ?_) | (refine RL.wantA ?_; refine RL.qa (oMove rfl rfl ev_a) ?_)
    first | (refine RL.skipA ?_) | (refine RL.wantA ?_; refine RL.qa (oEqNil (neg := false) rfl rfl ev_a rfl (by rfl) rfl (by rfl)) ?_)
    first | (refine RL.qa (oPickT rfl rfl ev_a ev_a) ?_) | (refine RL.qa (oPickF rfl rfl ev_a ev_a) ?_)
    refine RL.qa (oMove rfl rfl ev_a) ?_
    first | (refine RL.skipA ?_) | (refine RL.wantA ?_; refine RL.qa (oMove rfl rfl ev_a) ?_)
    first | (refine RL.skipA ?_) | (refine RL.wantA ?_; (first | (refine RL.qa (oLen rfl rfl rfl ev_a (by rfl)) ?_) | (refine RL.qa (oLenStr rfl rfl rfl ev_a) ?_) | (refine RL.qa (oLenArr rfl rfl rfl) ?_)))
    refine RL.wantA ?_
    refine RL.qa (oBin (v := .bool true) rfl rfl ev_a ev_a (by simp [binI]; omega)) ?_
    first | (refine RL.qa (oPickT rfl rfl ev_a ev_a) ?_) | (refine RL.qa (oPickF rfl rfl ev_a ev_a) ?_)
    refine RL.done ?_
    refine hK _ ?_
    clear hK K
    (repeat refine lwp_seq_k fun K hK => ?_)
    refine lw_condT (by (first | (apply ev_tmp; ((repeat (apply Lk.there; focus rfl)); exact Lk.here)) | exact ev_cint | exact ev_cbool | exact ev_cnilp | exact ev_cnils | exact ev_func | exact ev_cstr | exact ev_cnilf | exact ev_cnili)) ?_
    (repeat refine lwp_seq_k fun K hK => ?_)
    refine lw_region ?_
    refine RL.qa (oCallC rfl rfl ev_a evs_a (lives_ctr)) ?_
    refine RL.qa (oMove rfl rfl ev_a) ?_
    first | (refine RL.skipA ?_) | (refine RL.wantA ?_; refine RL.qa (oMove rfl rfl ev_a) ?_)
    first | (refine RL.skipA ?_) | (refine RL.wantA ?_; refine RL.qa (oEqNil (neg := true) rfl rfl ev_a rfl (by rfl) rfl (by rfl)) ?_)
    first | (refine RL.qa (oPickT rfl rfl ev_a ev_a) ?_) | (refine RL.qa (oPickF rfl rfl ev_a ev_a) ?_)
    refine RL.qa (oAssign rfl rfl ev_a) ?_
    refine RL.done ?_
    refine hK _ ?_
    clear hK K
    exact lwp_ret ⟨.inr rfl, ret1c (r0 := .bool true) rfl (by ((repeat (apply Lk.there; focus rfl)); exact Lk.here))⟩
end Go.Proofs.Ythnjhhohfhnhgaa
