/- SlabLasts: a burnt face is there behind whatever is done with other sectors, and whatever wakes. -/
import Derived.Test.YthnjhhohfhnhgaaSlabL
namespace Go.Proofs.Ythnjhhohfhnhgaa
open Go Go.RowKit
set_option maxRecDepth 10000

theorem burn1_keep {s t : Slb} {i a : Nat} {c : Option (List UInt8)} (h : s.l[a]? = some ⟨c, none⟩) (e : s.burn1 i = some t) : t.l[a]? = some ⟨c, none⟩ := by
  unfold Slb.burn1 at e
  cases hk : (s.l.getD i secD).ink with
  | none => rw [hk] at e; injection e with e; subst e; exact h
  | some b =>
    rw [hk] at e
    simp only at e
    split at e
    · cases e
    · injection e with e
      subst e
      have hia : i ≠ a := by
        intro e; subst e
        rw [List.getD_eq_getElem?_getD, h] at hk
        cases hk
      simp only [Slb.setBurn, struck_l]
      rw [List.getElem?_set_ne hia]
      exact h
theorem burnGo_keep {a : Nat} {c : Option (List UInt8)} : ∀ (k i : Nat) {s : Slb}, s.l[a]? = some ⟨c, none⟩ → (Slb.burnGo k i s).2.l[a]? = some ⟨c, none⟩
  | 0, _, _, h => h
  | k + 1, i, s, h => by
    unfold Slb.burnGo
    cases e : s.burn1 i with
    | none => exact h
    | some t => exact burnGo_keep k (i + 1) (burn1_keep h e)
theorem burn1_len {s t : Slb} {i : Nat} (e : s.burn1 i = some t) : t.l.length = s.l.length := by
  unfold Slb.burn1 at e
  split at e
  · injection e with e; subst e; rfl
  · split at e
    · cases e
    · injection e with e; subst e; simp [Slb.setBurn, struck_l]
theorem burnGo_len : ∀ (k i : Nat) (s : Slb), (Slb.burnGo k i s).2.l.length = s.l.length
  | 0, _, _ => rfl
  | k + 1, i, s => by
    unfold Slb.burnGo
    cases e : s.burn1 i with
    | none => rfl
    | some t => exact (burnGo_len k (i + 1) t).trans (burn1_len e)
theorem burn_len (s : Slb) : s.burn.2.l.length = s.l.length := by
  unfold Slb.burn
  split
  · rfl
  · exact burnGo_len _ _ _
theorem out_endless {s : Slb} (h : s.endless = true) : s.out = false := by simp [Slb.out, h]
theorem struck_endless {s : Slb} (h : s.endless = true) : s.struck.endless = true := by
  unfold Slb.struck; split <;> exact h
theorem burnGo_endless : ∀ (k i : Nat) {s : Slb}, s.endless = true → (Slb.burnGo k i s).1 = 0 ∧ (Slb.burnGo k i s).2.endless = true
  | 0, _, _, h => ⟨rfl, h⟩
  | k + 1, i, s, h => by
    have : ∃ t, s.burn1 i = some t ∧ t.endless = true := by
      unfold Slb.burn1
      cases (s.l.getD i secD).ink with
      | none => exact ⟨_, rfl, h⟩
      | some b => exact ⟨s.struck.setBurn i b, by simp only [out_endless h]; rfl, struck_endless h⟩
    obtain ⟨t, e, ht⟩ := this
    unfold Slb.burnGo
    rw [e]
    exact burnGo_endless k (i + 1) ht
theorem burnGo_at {j : Nat} {c : Option (List UInt8)} {b : List UInt8} : ∀ (k i : Nat) {s : Slb}, s.endless = true → s.l[j]? = some ⟨c, some b⟩ → i ≤ j → j < i + k → (Slb.burnGo k i s).2.l[j]? = some ⟨some b, none⟩
  | 0, i, _, _, _, h1, h2 => by omega
  | k + 1, i, s, h, hj, h1, h2 => by
    unfold Slb.burnGo
    rcases Nat.eq_or_lt_of_le h1 with e | hlt
    · subst e
      have hg : (s.l.getD i secD).ink = some b := by rw [List.getD_eq_getElem?_getD, hj]; rfl
      have e : s.burn1 i = some (s.struck.setBurn i b) := by
        unfold Slb.burn1
        rw [hg]
        simp only [out_endless h]
        rfl
      rw [e]
      refine burnGo_keep k (i + 1) ?_
      have := (List.getElem?_eq_some_iff.1 hj).1
      simp [Slb.setBurn, struck_l, this]
    · have : ∃ t, s.burn1 i = some t ∧ t.endless = true ∧ t.l[j]? = some ⟨c, some b⟩ := by
        unfold Slb.burn1
        cases (s.l.getD i secD).ink with
        | none => exact ⟨_, rfl, h, hj⟩
        | some b' =>
          refine ⟨s.struck.setBurn i b', by simp only [out_endless h]; rfl, struck_endless h, ?_⟩
          simp only [Slb.setBurn, struck_l]
          rw [List.getElem?_set_ne (by omega)]
          exact hj
      obtain ⟨t, e, ht, htj⟩ := this
      rw [e]
      exact burnGo_at k (i + 1) ht htj hlt (by omega)
theorem ink_len (s : Slb) (n : Int) (p : List UInt8) : (s.ink n p).2.l.length = s.l.length := by
  unfold Slb.ink; split
  · rfl
  · split
    · rfl
    · simp [Slb.setInk, struck_l]
theorem supplied_l (s : Slb) (n : Int) : (s.supplied n).l = s.l := by unfold Slb.supplied; split <;> rfl
theorem ink_keep {s : Slb} {a : Nat} {x : Sec} (h : s.l[a]? = some x) {n : Int} (hn : n ≠ (a : Int)) (p : List UInt8) : (s.ink n p).2.l[a]? = some x := by
  unfold Slb.ink
  split
  · exact h
  · rename_i hl
    split
    · exact h
    · obtain ⟨_, h0, h1⟩ := look0 (by simpa using hl)
      simp only [Slb.setInk, struck_l]
      rw [List.getElem?_set_ne (by omega)]
      exact h
theorem burn_keep {s : Slb} {a : Nat} {c : Option (List UInt8)} (h : s.l[a]? = some ⟨c, none⟩) : s.burn.2.l[a]? = some ⟨c, none⟩ := by
  unfold Slb.burn
  split
  · exact h
  · exact burnGo_keep _ _ h
theorem wake_keep {s : Slb} {a : Nat} {c : Option (List UInt8)} (M : List Scr) (h : s.l[a]? = some ⟨c, none⟩) : (s.wake M).l[a]? = some ⟨c, none⟩ := by
  simp [Slb.wake, List.getElem?_mapIdx, h]
theorem wake_len (s : Slb) (M : List Scr) : (s.wake M).l.length = s.l.length := by simp [Slb.wake]
theorem do_len (s : Slb) (d : Deed) : (s.do_ d).l.length = s.l.length := by
  unfold Slb.do_
  split
  · exact ink_len _ _ _
  · split
    · exact burn_len s
    · split
      · rw [supplied_l]
      · split
        · exact wake_len _ _
        · rfl
theorem do_keep {s : Slb} {a : Nat} {c : Option (List UInt8)} (h : s.l[a]? = some ⟨c, none⟩) {d : Deed} (hd : d.kind ≠ 0 ∨ d.at_ ≠ (a : Int)) : (s.do_ d).l[a]? = some ⟨c, none⟩ := by
  unfold Slb.do_
  split
  · exact ink_keep h (by omega) _
  · split
    · exact burn_keep h
    · split
      · rw [supplied_l]; exact h
      · split
        · exact wake_keep _ h
        · exact h
theorem face_at {s : Slb} {a : Nat} {b : List UInt8} (h : s.l[a]? = some ⟨some b, none⟩) : s.face a = b := by
  unfold Slb.face
  rw [List.getD_eq_getElem?_getD, h]
  rfl
theorem look_endless {s : Slb} (h : s.endless = true) {n : Int} (h0 : 0 ≤ n) (h1 : n < s.l.length) : s.lookE n = 0 := by
  unfold Slb.lookE
  rw [out_endless h]
  simp only [Bool.false_eq_true, if_false]
  rw [if_neg (by omega)]
theorem ink_endless {s : Slb} (h : s.endless = true) {n : Nat} (h1 : n < s.l.length) {p : List UInt8} (hp : p.length = 64) : s.ink n p = (0, s.struck.setInk n p) := by
  unfold Slb.ink
  rw [look_endless h (by omega) (by omega)]
  simp [hp]
/-- Inked and burnt, in a slab whose supply is endless. -/
theorem inkburn {s : Slb} (h : s.endless = true) {a : Nat} (h1 : a < s.l.length) {p : List UInt8} (hp : p.length = 64) : (s.ink a p).1 = 0 ∧ (s.ink a p).2.burn.1 = 0 ∧ (s.ink a p).2.burn.2.l[a]? = some ⟨some p, none⟩ := by
  rw [ink_endless h h1 hp]
  have he : (s.struck.setInk a p).endless = true := struck_endless h
  have hl : (s.struck.setInk a p).l.length = s.l.length := by simp [Slb.setInk, struck_l]
  have h0 : (s.struck.setInk a p).lookE 0 = 0 := look_endless he (by omega) (by omega)
  have hb : (s.struck.setInk a p).burn = Slb.burnGo (s.struck.setInk a p).l.length 0 (s.struck.setInk a p) := by unfold Slb.burn; rw [if_neg (by simp [h0])]
  refine ⟨rfl, ?_, ?_⟩
  · rw [hb]; exact (burnGo_endless _ _ he).1
  · rw [hb]
    refine burnGo_at (c := (s.l.getD a secD).burnt) (b := p) _ _ he ?_ (Nat.zero_le _) (by omega)
    simp [Slb.setInk, struck_l, h1]
theorem u64_rem (a : Int) (m : Nat) (hm : 0 < m) : ∃ u : Nat, IntKind.wrap .u64 a = (u : Int) ∧ u < 18446744073709551616 := by
  refine ⟨(a % 18446744073709551616).toNat, ?_, ?_⟩
  · rw [wrap_u64m]; omega
  · omega
theorem lasts_ctr (at_ : Int) (x : UInt8) (l : List Deed) (hl : l.length ≤ 9223372036854775807) (hsc : ∀ d ∈ l, d.sc.length ≤ 9223372036854775807) (hb : ∀ d ∈ l, ∀ x ∈ d.sc, x.2.length ≤ 9223372036854775807) :
    Ctr Try.prog 3 [.int .i64 at_, .int .u8 (x.toNat : Int), .ro false l.length (deedsPV l)] (.bool true) := by
  refine ctr_go 81 [(0, .int .i64 at_), (1, .int .u8 (x.toNat : Int)), (2, .ro false l.length (deedsPV l))] Try.func3 rfl rfl rfl (all_cons rfl (all_cons rfl (all_cons rfl all_nil))) ?_
  have w0 : (newS 32).wf := newS_wf (by decide)
  (repeat refine lwp_seq_k fun K hK => ?_)
  refine lw_region ?_
  refine RL.qa (oAssign rfl rfl ev_a) ?_
  refine RL.done ?_
  refine hK _ ?_
  clear hK K
  (repeat refine lwp_seq_k fun K hK => ?_)
  refine lw_region ?_
  refine RL.wsa (oNew 32 (by decide) rfl rfl ev_a evs_a rfl) ?_
  refine RL.qa (oAssign rfl rfl ev_a) ?_
  refine RL.done ?_
  refine hK _ ?_
  clear hK K
  (repeat refine lwp_seq_k fun K hK => ?_)
  refine lw_region ?_
  refine RL.qa (oCallC rfl rfl ev_a evs_a (lives_ctr)) ?_
  refine RL.qa (oNot rfl rfl ev_a) ?_
  refine RL.qa (oMove rfl rfl ev_a) ?_
  first | (refine RL.skipA ?_) | (refine RL.wantA ?_; refine RL.qa (oMove rfl rfl ev_a) ?_)
  first | (refine RL.skipA ?_) | (refine RL.wantA ?_; refine RL.qa (oEqNil (neg := false) rfl rfl ev_a rfl (by rfl) rfl (by rfl)) ?_)
  first | (refine RL.qa (oPickT rfl rfl ev_a ev_a) ?_) | (refine RL.qa (oPickF rfl rfl ev_a ev_a) ?_)
  refine RL.qa (oMove rfl rfl ev_a) ?_
  first | (refine RL.skipA ?_) | (refine RL.wantA ?_; refine RL.qa (oMove rfl rfl ev_a) ?_)
  first | (refine RL.skipA ?_) | (refine RL.wantA ?_; refine RL.qa (oCallC rfl rfl ev_a evs_a (few_ctr l hl hsc hb)) ?_)
  first | (refine RL.skipA ?_) | (refine RL.wantA ?_; refine RL.qa (oNot rfl rfl ev_a) ?_)
  first | (refine RL.qa (oPickT rfl rfl ev_a ev_a) ?_) | (refine RL.qa (oPickF rfl rfl ev_a ev_a) ?_)
  refine RL.done ?_
  refine hK _ ?_
  clear hK K
  cases hf : fewB l with
  | false =>
    (repeat refine lwp_seq_k fun K hK => ?_)
    refine lw_condT (by (first | (apply ev_tmp; ((repeat (apply Lk.there; focus rfl)); exact Lk.here)) | exact ev_cint | exact ev_cbool | exact ev_cnilp | exact ev_cnils | exact ev_func | exact ev_cstr | exact ev_cnilf | exact ev_cnili)) ?_
    (repeat refine lwp_seq_k fun K hK => ?_)
    refine lw_region ?_
    refine RL.qa (oCallC rfl rfl ev_a evs_a (lives_ctr)) ?_
    refine RL.qa (oMove rfl rfl ev_a) ?_
    first | (refine RL.skipA ?_) | (refine RL.wantA ?_; refine RL.qa (oMove rfl rfl ev_a) ?_)
    first | (refine RL.skipA ?_) | (refine RL.wantA ?_; refine RL.qa (oEqNil (neg := true) rfl rfl ev_a rfl (by rfl) rfl (by rfl)) ?_)
    first | (refine RL.qa (oPickT rfl rfl ev_a ev_a) ?_) | (refine RL.qa (oPickF rfl rfl ev_a ev_a) ?_)
    refine RL.qa (oAssign rfl rfl ev_a) ?_
    refine RL.done ?_
    refine hK _ ?_
    clear hK K
    exact lwp_ret ⟨.inr rfl, ret1c (r0 := .bool true) rfl (by ((repeat (apply Lk.there; focus rfl)); exact Lk.here))⟩
  | true =>
    clear hf
    (repeat refine lwp_seq_k fun K hK => ?_)
    refine lw_condF (by (first | (apply ev_tmp; ((repeat (apply Lk.there; focus rfl)); exact Lk.here)) | exact ev_cint | exact ev_cbool | exact ev_cnilp | exact ev_cnils | exact ev_func | exact ev_cstr | exact ev_cnilf | exact ev_cnili)) ?_
    refine lwp_skip (hK _ ?_)
    clear hK K
    obtain ⟨u, hu, hu2⟩ := u64_rem at_ 32 (by decide)
    (repeat refine lwp_seq_k fun K hK => ?_)
    refine lw_region ?_
    refine RL.qa (oMove rfl rfl ev_a) ?_
    refine RL.qa (oConv rfl rfl ev_a) ?_
    rw [hu]
    first | (refine RL.qa (oRemN rfl rfl rfl ev_a ev_a (by omega) (by omega)) ?_) | (refine RL.qa (oBin rfl rfl ev_a ev_a (by rfl)) ?_)
    first | (refine RL.qa (oConvI rfl rfl ev_a (wrap_i64 (by omega) (by omega))) ?_) | (refine RL.qa (oConvI rfl rfl ev_a (wrap_u64 (by omega) (by omega))) ?_) | (refine RL.qa (oConvI rfl rfl ev_a (wrap_u32 (by omega) (by omega))) ?_) | (refine RL.qa (oConvI rfl rfl ev_a (wrap_u8 (by omega) (by omega))) ?_) | (refine RL.qa (oStrOf rfl rfl ev_a (by rfl) (by first | rfl | assumption | (simp; first | done | fail))) ?_)
    refine RL.qa (oAssign rfl rfl ev_a) ?_
    refine RL.done ?_
    refine hK _ ?_
    clear hK K
    have ha : u % 32 < 32 := Nat.mod_lt _ (by decide)
    have hua : (u : Int) % 32 = ((u % 32 : Nat) : Int) := by omega
    rw [hua]
    generalize u % 32 = a at *
    have hlen0 : (newS 32).l.length = 32 := by simp [newS]
    obtain ⟨f1, f2, f3⟩ := inkburn (s := newS 32) rfl (a := a) (by rw [hlen0]; exact ha) (plain_len x)
    have w1 := ink_wf w0 a (plain x)
    have w2 := burn_wf w1
    have hln : ((newS 32).ink a (plain x)).2.burn.2.l.length = 32 := by rw [burn_len, ink_len, hlen0]
    (repeat refine lwp_seq_k fun K hK => ?_)
    refine lw_region ?_
    refine RL.qa (oMove rfl rfl ev_a) ?_
    refine RL.qa (oMove rfl rfl ev_a) ?_
    refine RL.qa (oMove rfl rfl ev_a) ?_
    refine RL.qa (oCallC rfl rfl ev_a evs_a (plain_ctr x)) ?_
    refine RL.wsa (oSlab 1 0 rfl rfl ev_a evs_a (ink_plain (newS 32) w0 a x) rfl rfl rfl (by rfl) rfl) ?_
    refine RL.qa (oBin (v := .bool false) rfl rfl ev_a ev_a (by simp [binI, f1])) ?_
    refine RL.qa (oMove rfl rfl ev_a) ?_
    first | (refine RL.skipA ?_) | (refine RL.wantA ?_; refine RL.qa (oMove rfl rfl ev_a) ?_)
    first | (refine RL.skipA ?_) | (refine RL.wantA ?_; refine RL.wsa (oSlab 1 0 rfl rfl ev_a evs_a (burn_ctr ((newS 32).ink a (plain x)).2 w1) rfl rfl rfl (by rfl) rfl) ?_)
    refine RL.wantA ?_
    refine RL.qa (oBin (v := .bool false) rfl rfl ev_a ev_a (by simp [binI, f2])) ?_
    first | (refine RL.qa (oPickT rfl rfl ev_a ev_a) ?_) | (refine RL.qa (oPickF rfl rfl ev_a ev_a) ?_)
    refine RL.done ?_
    refine hK _ ?_
    clear hK K
    (repeat refine lwp_seq_k fun K hK => ?_)
    refine lw_condF (by (first | (apply ev_tmp; ((repeat (apply Lk.there; focus rfl)); exact Lk.here)) | exact ev_cint | exact ev_cbool | exact ev_cnilp | exact ev_cnils | exact ev_func | exact ev_cstr | exact ev_cnilf | exact ev_cnili)) ?_
    refine lwp_skip (hK _ ?_)
    clear hK K
    generalize ((newS 32).ink a (plain x)).2.burn.2 = t at *
    clear f1 f2 w0 w1 hua hu hu2
    (repeat refine lwp_seq_k fun K hK => ?_)
    refine lw_region ?_
    refine RL.qa (oMove rfl rfl ev_a) ?_
    first | (refine RL.qa (oLen rfl rfl rfl ev_a (by rfl)) ?_) | (refine RL.qa (oLenStr rfl rfl rfl ev_a) ?_) | (refine RL.qa (oLenArr rfl rfl rfl) ?_)
    refine RL.qa (oMove rfl rfl ev_a) ?_
    refine RL.done ?_
    refine hK _ ?_
    clear hK K
    (repeat refine lwp_seq_k fun K hK => ?_)
    refine lwp_block ?_
    refine lwp_loopR (fun q st => ∃ (j : Nat) (t : Slb), q = l.length - j ∧ j ≤ l.length ∧ t.wf ∧ t.l.length = 32 ∧ t.l[a]? = some ⟨some (plain x), none⟩ ∧ st = St' [(0, .int .i64 a), (1, .int .u8 (x.toNat : Int)), (7, .op 1 0 0), (44, .ro false l.length (deedsPV l)), (45, .int .i64 l.length), (46, .int .i64 j)] [(0, slabL t), (1, slabS 0 t)] 2) l.length _
      (lessR_of [0, 1] [] rfl (by decide) (fun m hm => by first | omega | simp at hm) (by simp) (all_cons ⟨_, by ((repeat (apply Lk.there; focus rfl)); exact Lk.here), (by first | exact .eq rfl | exact .opI rfl | exact .osI rfl | exact .mpI rfl | exact .cv | exact .wk (.eq rfl) (Wk.junk _))⟩ (all_cons ⟨_, by ((repeat (apply Lk.there; focus rfl)); exact Lk.here), (by first | exact .eq rfl | exact .opI rfl | exact .osI rfl | exact .mpI rfl | exact .cv | exact .wk (.eq rfl) (Wk.junk _))⟩ (all_cons ⟨_, by ((repeat (apply Lk.there; focus rfl)); exact Lk.here), (by first | exact .eq rfl | exact .opI rfl | exact .osI rfl | exact .mpI rfl | exact .cv | exact .wk (.eq rfl) (Wk.junk _))⟩ (all_cons ⟨_, by ((repeat (apply Lk.there; focus rfl)); exact Lk.here), (by first | exact .eq rfl | exact .opI rfl | exact .osI rfl | exact .mpI rfl | exact .cv | exact .wk (.eq rfl) (Wk.junk _))⟩ (all_cons ⟨_, by ((repeat (apply Lk.there; focus rfl)); exact Lk.here), (by first | exact .eq rfl | exact .opI rfl | exact .osI rfl | exact .mpI rfl | exact .cv | exact .wk (.eq rfl) (Wk.junk _))⟩ (all_cons ⟨_, by ((repeat (apply Lk.there; focus rfl)); exact Lk.here), (by first | exact .eq rfl | exact .opI rfl | exact .osI rfl | exact .mpI rfl | exact .cv | exact .wk (.eq rfl) (Wk.junk _))⟩ all_nil)))))) (all_cons ⟨_, _, by rfl, by rfl, (by first | exact slabS_tr rfl | exact slabL_tr | exact ⟨rfl, rfl, rfl, .cv⟩ | (refine ⟨rfl, rfl, rfl, ?_⟩; (repeat (refine TrL.cons (by first | exact .eq rfl | exact .opI rfl | exact .osI rfl | exact .mpI rfl | exact .cv | exact .wk (.eq rfl) (Wk.junk _)) ?_)); exact TrL.nil))⟩ (all_cons ⟨_, _, by rfl, by rfl, (by first | exact slabS_tr rfl | exact slabL_tr | exact ⟨rfl, rfl, rfl, .cv⟩ | (refine ⟨rfl, rfl, rfl, ?_⟩; (repeat (refine TrL.cons (by first | exact .eq rfl | exact .opI rfl | exact .osI rfl | exact .mpI rfl | exact .cv | exact .wk (.eq rfl) (Wk.junk _)) ?_)); exact TrL.nil))⟩ all_nil))) ⟨0, t, rfl, Nat.zero_le _, w2, hln, f3, rfl⟩ ?_
    clear w2 f3 hln
    clear t
    rintro q _ ⟨j, t, rfl, hj, hwt, htl, hta, rfl⟩
    by_cases hlt : j < l.length
    · have hd1 := hsc _ (List.getElem_mem hlt)
      have htk := deed_take l j hlt
      generalize l[j] = d at *
      (repeat refine lwp_seq_k fun K hK => ?_)
      refine lw_region ?_
      refine RL.qa (oBin (v := .bool true) rfl rfl ev_a ev_a (by simp [binI]; omega)) ?_
      refine RL.done ?_
      refine hK _ ?_
      clear hK K
      (repeat refine lwp_seq_k fun K hK => ?_)
      refine lw_condT (by (first | (apply ev_tmp; ((repeat (apply Lk.there; focus rfl)); exact Lk.here)) | exact ev_cint | exact ev_cbool | exact ev_cnilp | exact ev_cnils | exact ev_func | exact ev_cstr | exact ev_cnilf | exact ev_cnili)) ?_
      refine lwp_skip (hK _ ?_)
      clear hK K
      (repeat refine lwp_seq_k fun K hK => ?_)
      refine lwp_block ?_
      (repeat refine lwp_seq_k fun K hK => ?_)
      refine lw_region ?_
      refine RL.qa (oIndexRo rfl rfl ev_a ev_a (by omega) (by omega) (by decide) (length_fm deed_len l)) ?_
      refine RL.qa (oLoadA (ys := [.int .i64 d.kind, .int .i64 d.at_, .int .i64 d.n, .int .u8 (d.x.toNat : Int), .ro false d.sc.length (scarsPV d.sc)]) rfl rfl ev_a (by rfl) (by rfl) (by rw [Int.toNat_natCast, htk]; simp [deedPV]) (by rw [Int.toNat_natCast, htk]; rfl)) ?_
      refine RL.wa (oAlloc 1 (Nat.succ_pos 0) rfl rfl (by rfl)) ?_
      refine RL.w0a (oStore rfl rfl ev_a (by rfl) (by rfl) ev_a (by rfl) (by simp [cellsPV, leaf]) (by rfl) (Nat.zero_le _) (by first | exact Nat.le_of_ble_eq_true rfl | (simp [length_setAt, length_secs, slabS, slabL]; first | done | omega)) (by rfl)) ?_
      refine RL.done ?_
      refine hK _ ?_
      clear hK K
      by_cases h0 : d.kind = 0 ∧ d.at_ = a
      · (repeat refine lwp_seq_k fun K hK => ?_)
        refine lw_region ?_
        refine RL.qa (oFieldAddr rfl rfl ev_a (by decide) (by rfl)) ?_
        refine RL.qa (oLoad rfl rfl ev_a (by rfl) (by rfl)) ?_
        refine RL.qa (oBin (v := .bool false) rfl rfl ev_a ev_a (by simp [binI, h0.1])) ?_
        refine RL.qa (oMove rfl rfl ev_a) ?_
        first | (refine RL.skipA ?_) | (refine RL.wantA ?_; refine RL.qa (oFieldAddr rfl rfl ev_a (by decide) (by rfl)) ?_)
        first | (refine RL.skipA ?_) | (refine RL.wantA ?_; refine RL.qa (oLoad rfl rfl ev_a (by rfl) (by rfl)) ?_)
        first | (refine RL.skipA ?_) | (refine RL.wantA ?_; refine RL.qa (oMove rfl rfl ev_a) ?_)
        refine RL.wantA ?_
        refine RL.qa (oBin (v := .bool false) rfl rfl ev_a ev_a (by simp [binI, h0.2])) ?_
        first | (refine RL.qa (oPickT rfl rfl ev_a ev_a) ?_) | (refine RL.qa (oPickF rfl rfl ev_a ev_a) ?_)
        refine RL.done ?_
        refine hK _ ?_
        clear hK K
        (repeat refine lwp_seq_k fun K hK => ?_)
        refine lw_condF (by (first | (apply ev_tmp; ((repeat (apply Lk.there; focus rfl)); exact Lk.here)) | exact ev_cint | exact ev_cbool | exact ev_cnilp | exact ev_cnils | exact ev_func | exact ev_cstr | exact ev_cnilf | exact ev_cnili)) ?_
        refine lwp_skip ?_
        show inBlk 1 _ .normal _
        simp only [inBlk, thenL]
        refine hK _ ?_
        clear hK K
        (repeat refine lwp_seq_k fun K hK => ?_)
        refine lw_region ?_
        first | (refine RL.qa (oArith rfl rfl ev_a ev_a (by rfl) (by omega) (by omega)) ?_) | (refine RL.qa (oBin rfl rfl ev_a ev_a (by rfl)) ?_)
        refine RL.qa (oMove rfl rfl ev_a) ?_
        refine RL.done ?_
        exact ⟨_, _, (by omega : l.length - (j + 1) < l.length - j), (lessR_of [0, 1] [] rfl (by decide) (fun m hm => by first | omega | simp at hm) (by simp) (all_cons ⟨_, by ((repeat (apply Lk.there; focus rfl)); exact Lk.here), (by first | exact .eq rfl | exact .opI rfl | exact .osI rfl | exact .mpI rfl | exact .cv | exact .wk (.eq rfl) (Wk.junk _))⟩ (all_cons ⟨_, by ((repeat (apply Lk.there; focus rfl)); exact Lk.here), (by first | exact .eq rfl | exact .opI rfl | exact .osI rfl | exact .mpI rfl | exact .cv | exact .wk (.eq rfl) (Wk.junk _))⟩ (all_cons ⟨_, by ((repeat (apply Lk.there; focus rfl)); exact Lk.here), (by first | exact .eq rfl | exact .opI rfl | exact .osI rfl | exact .mpI rfl | exact .cv | exact .wk (.eq rfl) (Wk.junk _))⟩ (all_cons ⟨_, by ((repeat (apply Lk.there; focus rfl)); exact Lk.here), (by first | exact .eq rfl | exact .opI rfl | exact .osI rfl | exact .mpI rfl | exact .cv | exact .wk (.eq rfl) (Wk.junk _))⟩ (all_cons ⟨_, by ((repeat (apply Lk.there; focus rfl)); exact Lk.here), (by first | exact .eq rfl | exact .opI rfl | exact .osI rfl | exact .mpI rfl | exact .cv | exact .wk (.eq rfl) (Wk.junk _))⟩ (all_cons ⟨_, by ((repeat (apply Lk.there; focus rfl)); exact Lk.here), (by first | exact .eq rfl | exact .opI rfl | exact .osI rfl | exact .mpI rfl | exact .cv | exact .wk (.eq rfl) (Wk.junk _))⟩ all_nil)))))) (all_cons ⟨_, _, by rfl, by rfl, (by first | exact slabS_tr rfl | exact slabL_tr | exact ⟨rfl, rfl, rfl, .cv⟩ | (refine ⟨rfl, rfl, rfl, ?_⟩; (repeat (refine TrL.cons (by first | exact .eq rfl | exact .opI rfl | exact .osI rfl | exact .mpI rfl | exact .cv | exact .wk (.eq rfl) (Wk.junk _)) ?_)); exact TrL.nil))⟩ (all_cons ⟨_, _, by rfl, by rfl, (by first | exact slabS_tr rfl | exact slabL_tr | exact ⟨rfl, rfl, rfl, .cv⟩ | (refine ⟨rfl, rfl, rfl, ?_⟩; (repeat (refine TrL.cons (by first | exact .eq rfl | exact .opI rfl | exact .osI rfl | exact .mpI rfl | exact .cv | exact .wk (.eq rfl) (Wk.junk _)) ?_)); exact TrL.nil))⟩ all_nil))), j + 1, t, rfl, by omega, hwt, htl, hta, rfl⟩
      · have hk := do_keep hta (d := d) (by omega)
        have hl2 : (t.do_ d).l.length = 32 := by rw [do_len, htl]
        have hw2 := do_wf hwt d
        by_cases h1 : d.kind = 0
        · (repeat refine lwp_seq_k fun K hK => ?_)
          refine lw_region ?_
          refine RL.qa (oFieldAddr rfl rfl ev_a (by decide) (by rfl)) ?_
          refine RL.qa (oLoad rfl rfl ev_a (by rfl) (by rfl)) ?_
          refine RL.qa (oBin (v := .bool false) rfl rfl ev_a ev_a (by simp [binI, h1])) ?_
          refine RL.qa (oMove rfl rfl ev_a) ?_
          first | (refine RL.skipA ?_) | (refine RL.wantA ?_; refine RL.qa (oFieldAddr rfl rfl ev_a (by decide) (by rfl)) ?_)
          first | (refine RL.skipA ?_) | (refine RL.wantA ?_; refine RL.qa (oLoad rfl rfl ev_a (by rfl) (by rfl)) ?_)
          first | (refine RL.skipA ?_) | (refine RL.wantA ?_; refine RL.qa (oMove rfl rfl ev_a) ?_)
          refine RL.wantA ?_
          refine RL.qa (oBin (v := .bool true) rfl rfl ev_a ev_a (by simp [binI]; omega)) ?_
          first | (refine RL.qa (oPickT rfl rfl ev_a ev_a) ?_) | (refine RL.qa (oPickF rfl rfl ev_a ev_a) ?_)
          refine RL.done ?_
          refine hK _ ?_
          clear hK K
          (repeat refine lwp_seq_k fun K hK => ?_)
          refine lw_condT (by (first | (apply ev_tmp; ((repeat (apply Lk.there; focus rfl)); exact Lk.here)) | exact ev_cint | exact ev_cbool | exact ev_cnilp | exact ev_cnils | exact ev_func | exact ev_cstr | exact ev_cnilf | exact ev_cnili)) ?_
          (repeat refine lwp_seq_k fun K hK => ?_)
          refine lw_region ?_
          refine RL.qa (oMove rfl rfl ev_a) ?_
          refine RL.qa (oLoadA (ys := deedPV d) rfl rfl ev_a (by rfl) (by rfl) (by exact Nat.le_of_ble_eq_true rfl) (by rfl)) ?_
          refine RL.wsa (oSlab 1 0 rfl rfl ev_a evs_a (do_ctr t hwt d hd1) rfl rfl rfl (by rfl) rfl) ?_
          refine RL.done ?_
          show inBlk 1 _ .normal _
          simp only [inBlk, thenL]
          refine hK _ ?_
          clear hK K
          (repeat refine lwp_seq_k fun K hK => ?_)
          refine lw_region ?_
          first | (refine RL.qa (oArith rfl rfl ev_a ev_a (by rfl) (by omega) (by omega)) ?_) | (refine RL.qa (oBin rfl rfl ev_a ev_a (by rfl)) ?_)
          refine RL.qa (oMove rfl rfl ev_a) ?_
          refine RL.done ?_
          exact ⟨_, _, (by omega : l.length - (j + 1) < l.length - j), (lessR_of [0, 1] [] rfl (by decide) (fun m hm => by first | omega | simp at hm) (by simp) (all_cons ⟨_, by ((repeat (apply Lk.there; focus rfl)); exact Lk.here), (by first | exact .eq rfl | exact .opI rfl | exact .osI rfl | exact .mpI rfl | exact .cv | exact .wk (.eq rfl) (Wk.junk _))⟩ (all_cons ⟨_, by ((repeat (apply Lk.there; focus rfl)); exact Lk.here), (by first | exact .eq rfl | exact .opI rfl | exact .osI rfl | exact .mpI rfl | exact .cv | exact .wk (.eq rfl) (Wk.junk _))⟩ (all_cons ⟨_, by ((repeat (apply Lk.there; focus rfl)); exact Lk.here), (by first | exact .eq rfl | exact .opI rfl | exact .osI rfl | exact .mpI rfl | exact .cv | exact .wk (.eq rfl) (Wk.junk _))⟩ (all_cons ⟨_, by ((repeat (apply Lk.there; focus rfl)); exact Lk.here), (by first | exact .eq rfl | exact .opI rfl | exact .osI rfl | exact .mpI rfl | exact .cv | exact .wk (.eq rfl) (Wk.junk _))⟩ (all_cons ⟨_, by ((repeat (apply Lk.there; focus rfl)); exact Lk.here), (by first | exact .eq rfl | exact .opI rfl | exact .osI rfl | exact .mpI rfl | exact .cv | exact .wk (.eq rfl) (Wk.junk _))⟩ (all_cons ⟨_, by ((repeat (apply Lk.there; focus rfl)); exact Lk.here), (by first | exact .eq rfl | exact .opI rfl | exact .osI rfl | exact .mpI rfl | exact .cv | exact .wk (.eq rfl) (Wk.junk _))⟩ all_nil)))))) (all_cons ⟨_, _, by rfl, by rfl, (by first | exact slabS_tr rfl | exact slabL_tr | exact ⟨rfl, rfl, rfl, .cv⟩ | (refine ⟨rfl, rfl, rfl, ?_⟩; (repeat (refine TrL.cons (by first | exact .eq rfl | exact .opI rfl | exact .osI rfl | exact .mpI rfl | exact .cv | exact .wk (.eq rfl) (Wk.junk _)) ?_)); exact TrL.nil))⟩ (all_cons ⟨_, _, by rfl, by rfl, (by first | exact slabS_tr rfl | exact slabL_tr | exact ⟨rfl, rfl, rfl, .cv⟩ | (refine ⟨rfl, rfl, rfl, ?_⟩; (repeat (refine TrL.cons (by first | exact .eq rfl | exact .opI rfl | exact .osI rfl | exact .mpI rfl | exact .cv | exact .wk (.eq rfl) (Wk.junk _)) ?_)); exact TrL.nil))⟩ all_nil))), j + 1, t.do_ d, rfl, by omega, hw2, hl2, hk, rfl⟩
        · (repeat refine lwp_seq_k fun K hK => ?_)
          refine lw_region ?_
          refine RL.qa (oFieldAddr rfl rfl ev_a (by decide) (by rfl)) ?_
          refine RL.qa (oLoad rfl rfl ev_a (by rfl) (by rfl)) ?_
          refine RL.qa (oBin (v := .bool true) rfl rfl ev_a ev_a (by simp [binI, h1])) ?_
          refine RL.qa (oMove rfl rfl ev_a) ?_
          first | (refine RL.skipA ?_) | (refine RL.wantA ?_; refine RL.qa (oFieldAddr rfl rfl ev_a (by decide) (by rfl)) ?_)
          first | (refine RL.skipA ?_) | (refine RL.wantA ?_; refine RL.qa (oLoad rfl rfl ev_a (by rfl) (by rfl)) ?_)
          first | (refine RL.skipA ?_) | (refine RL.wantA ?_; refine RL.qa (oMove rfl rfl ev_a) ?_)
          first | (refine RL.skipA ?_) | (refine RL.wantA ?_; (first | (refine RL.qa (oBin rfl rfl ev_a ev_a (by rfl)) ?_) | (refine RL.qa (oStr rfl rfl ev_a ev_a (by rfl)) ?_)))
          first | (refine RL.qa (oPickT rfl rfl ev_a ev_a) ?_) | (refine RL.qa (oPickF rfl rfl ev_a ev_a) ?_)
          refine RL.done ?_
          refine hK _ ?_
          clear hK K
          (repeat refine lwp_seq_k fun K hK => ?_)
          refine lw_condT (by (first | (apply ev_tmp; ((repeat (apply Lk.there; focus rfl)); exact Lk.here)) | exact ev_cint | exact ev_cbool | exact ev_cnilp | exact ev_cnils | exact ev_func | exact ev_cstr | exact ev_cnilf | exact ev_cnili)) ?_
          (repeat refine lwp_seq_k fun K hK => ?_)
          refine lw_region ?_
          refine RL.qa (oMove rfl rfl ev_a) ?_
          refine RL.qa (oLoadA (ys := deedPV d) rfl rfl ev_a (by rfl) (by rfl) (by exact Nat.le_of_ble_eq_true rfl) (by rfl)) ?_
          refine RL.wsa (oSlab 1 0 rfl rfl ev_a evs_a (do_ctr t hwt d hd1) rfl rfl rfl (by rfl) rfl) ?_
          refine RL.done ?_
          show inBlk 1 _ .normal _
          simp only [inBlk, thenL]
          refine hK _ ?_
          clear hK K
          (repeat refine lwp_seq_k fun K hK => ?_)
          refine lw_region ?_
          first | (refine RL.qa (oArith rfl rfl ev_a ev_a (by rfl) (by omega) (by omega)) ?_) | (refine RL.qa (oBin rfl rfl ev_a ev_a (by rfl)) ?_)
          refine RL.qa (oMove rfl rfl ev_a) ?_
          refine RL.done ?_
          exact ⟨_, _, (by omega : l.length - (j + 1) < l.length - j), (lessR_of [0, 1] [] rfl (by decide) (fun m hm => by first | omega | simp at hm) (by simp) (all_cons ⟨_, by ((repeat (apply Lk.there; focus rfl)); exact Lk.here), (by first | exact .eq rfl | exact .opI rfl | exact .osI rfl | exact .mpI rfl | exact .cv | exact .wk (.eq rfl) (Wk.junk _))⟩ (all_cons ⟨_, by ((repeat (apply Lk.there; focus rfl)); exact Lk.here), (by first | exact .eq rfl | exact .opI rfl | exact .osI rfl | exact .mpI rfl | exact .cv | exact .wk (.eq rfl) (Wk.junk _))⟩ (all_cons ⟨_, by ((repeat (apply Lk.there; focus rfl)); exact Lk.here), (by first | exact .eq rfl | exact .opI rfl | exact .osI rfl | exact .mpI rfl | exact .cv | exact .wk (.eq rfl) (Wk.junk _))⟩ (all_cons ⟨_, by ((repeat (apply Lk.there; focus rfl)); exact Lk.here), (by first | exact .eq rfl | exact .opI rfl | exact .osI rfl | exact .mpI rfl | exact .cv | exact .wk (.eq rfl) (Wk.junk _))⟩ (all_cons ⟨_, by ((repeat (apply Lk.there; focus rfl)); exact Lk.here), (by first | exact .eq rfl | exact .opI rfl | exact .osI rfl | exact .mpI rfl | exact .cv | exact .wk (.eq rfl) (Wk.junk _))⟩ (all_cons ⟨_, by ((repeat (apply Lk.there; focus rfl)); exact Lk.here), (by first | exact .eq rfl | exact .opI rfl | exact .osI rfl | exact .mpI rfl | exact .cv | exact .wk (.eq rfl) (Wk.junk _))⟩ all_nil)))))) (all_cons ⟨_, _, by rfl, by rfl, (by first | exact slabS_tr rfl | exact slabL_tr | exact ⟨rfl, rfl, rfl, .cv⟩ | (refine ⟨rfl, rfl, rfl, ?_⟩; (repeat (refine TrL.cons (by first | exact .eq rfl | exact .opI rfl | exact .osI rfl | exact .mpI rfl | exact .cv | exact .wk (.eq rfl) (Wk.junk _)) ?_)); exact TrL.nil))⟩ (all_cons ⟨_, _, by rfl, by rfl, (by first | exact slabS_tr rfl | exact slabL_tr | exact ⟨rfl, rfl, rfl, .cv⟩ | (refine ⟨rfl, rfl, rfl, ?_⟩; (repeat (refine TrL.cons (by first | exact .eq rfl | exact .opI rfl | exact .osI rfl | exact .mpI rfl | exact .cv | exact .wk (.eq rfl) (Wk.junk _)) ?_)); exact TrL.nil))⟩ all_nil))), j + 1, t.do_ d, rfl, by omega, hw2, hl2, hk, rfl⟩
    · obtain rfl : j = l.length := by omega
      (repeat refine lwp_seq_k fun K hK => ?_)
      refine lw_region ?_
      refine RL.qa (oBin (v := .bool false) rfl rfl ev_a ev_a (by simp [binI])) ?_
      refine RL.done ?_
      refine hK _ ?_
      clear hK K
      (repeat refine lwp_seq_k fun K hK => ?_)
      refine lw_condF (by (first | (apply ev_tmp; ((repeat (apply Lk.there; focus rfl)); exact Lk.here)) | exact ev_cint | exact ev_cbool | exact ev_cnilp | exact ev_cnils | exact ev_func | exact ev_cstr | exact ev_cnilf | exact ev_cnili)) ?_
      refine lwp_exit ?_
      simp only [thenL, inBlk, if_true]
      clear hK K
      refine hK _ ?_
      clear hK K
      have g1 := wake_keep [] hta
      have g2 := wake_wf hwt []
      have g3 : (t.wake []).lookE a = 0 := look_endless rfl (by omega) (by rw [wake_len, htl]; omega)
      have g4 : (t.wake []).face (Int.toNat a) = plain x := by rw [Int.toNat_natCast]; exact face_at g1
      (repeat refine lwp_seq_k fun K hK => ?_)
      refine lw_region ?_
      refine RL.qa (oMove rfl rfl ev_a) ?_
      refine RL.wsa (oSlab 1 0 rfl rfl ev_a evs_a (wake_nil t hwt) rfl rfl rfl (by rfl) rfl) ?_
      refine RL.done ?_
      refine hK _ ?_
      clear hK K
      generalize t.wake [] = t2 at *
      (repeat refine lwp_seq_k fun K hK => ?_)
      refine lw_region ?_
      refine RL.qa (oMove rfl rfl ev_a) ?_
      refine RL.qa (oMove rfl rfl ev_a) ?_
      refine RL.wsa (oSlab 1 0 rfl rfl ev_a evs_a (face_ok t2 a g2 g3) rfl rfl rfl (by rfl) rfl) ?_
      refine RL.qa (oMove rfl rfl ev_a) ?_
      refine RL.qa (oExtract rfl rfl ev_a (by rfl)) ?_
      refine RL.qa (oExtract rfl rfl ev_a (by rfl)) ?_
      refine RL.qa (oAssign rfl rfl ev_a) ?_
      refine RL.qa (oAssign rfl rfl ev_a) ?_
      refine RL.done ?_
      refine hK _ ?_
      clear hK K
      rw [g4]
      (repeat refine lwp_seq_k fun K hK => ?_)
      refine lw_region_any (by kernel_rfl) ?_
      refine RL.qa (oMove rfl rfl ev_a) ?_
      first | (refine RL.qa (oBin rfl rfl ev_a ev_a (by rfl)) ?_) | (refine RL.qa (oStr rfl rfl ev_a ev_a (by rfl)) ?_)
      refine RL.qa (oMove rfl rfl ev_a) ?_
      first | (refine RL.skipA ?_) | (refine RL.wantA ?_; refine RL.qa (oMove rfl rfl ev_a) ?_)
      first | (refine RL.skipA ?_) | (refine RL.wantA ?_; (first | (refine RL.qa (oConvI rfl rfl ev_a (wrap_i64 (by omega) (by omega))) ?_) | (refine RL.qa (oConvI rfl rfl ev_a (wrap_u64 (by omega) (by omega))) ?_) | (refine RL.qa (oConvI rfl rfl ev_a (wrap_u32 (by omega) (by omega))) ?_) | (refine RL.qa (oConvI rfl rfl ev_a (wrap_u8 (by omega) (by omega))) ?_) | (refine RL.qa (oStrOf rfl rfl ev_a (by rfl) (by first | rfl | assumption | (simp; first | done | fail))) ?_)))
      first | (refine RL.skipA ?_) | (refine RL.wantA ?_; refine RL.qa (oMove rfl rfl ev_a) ?_)
      first | (refine RL.skipA ?_) | (refine RL.wantA ?_; refine RL.qa (oCallC rfl rfl ev_a evs_a (plain_ctr x)) ?_)
      first | (refine RL.skipA ?_) | (refine RL.wantA ?_; (first | (refine RL.qa (oConvI rfl rfl ev_a (wrap_i64 (by omega) (by omega))) ?_) | (refine RL.qa (oConvI rfl rfl ev_a (wrap_u64 (by omega) (by omega))) ?_) | (refine RL.qa (oConvI rfl rfl ev_a (wrap_u32 (by omega) (by omega))) ?_) | (refine RL.qa (oConvI rfl rfl ev_a (wrap_u8 (by omega) (by omega))) ?_) | (refine RL.qa (oStrOf rfl rfl ev_a (by rfl) (by first | rfl | assumption | (simp; first | done | fail))) ?_)))
      refine RL.wantA ?_
      refine RL.qa (oStr (v := .bool true) rfl rfl ev_a ev_a (by simp)) ?_
      first | (refine RL.qa (oPickT rfl rfl ev_a ev_a) ?_) | (refine RL.qa (oPickF rfl rfl ev_a ev_a) ?_)
      refine RL.qa (oAssign rfl rfl ev_a) ?_
      refine RL.done ⟨by kernel_rfl, ?_⟩
      refine hK _ ?_
      clear hK K
      exact lwp_ret ⟨.inr rfl, ret1c (r0 := .bool true) rfl (by ((repeat (apply Lk.there; focus rfl)); exact Lk.here))⟩
end Go.Proofs.Ythnjhhohfhnhgaa
