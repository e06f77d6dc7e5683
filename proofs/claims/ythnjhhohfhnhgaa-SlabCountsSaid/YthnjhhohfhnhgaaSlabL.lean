/- The laws of chapter 15: what all begin with; what lasts. -/
import Derived.Test.YthnjhhohfhnhgaaSlabX
import Derived.Test.YthnjhhohfhnhgaaSlabE
namespace Go.Proofs.Ythnjhhohfhnhgaa
open Go Go.RowKit
set_option maxRecDepth 10000

section
variable {N : Nat} {o : Oper} {HL : List (Nat × Blk')} {n : Nat}
theorem oNew (k : Nat) (hk : 4 ≤ k ∧ k ≤ 4096) {T : Nat → PV} {f : Operand} {av : Array Operand} {ts : Array TypeId}
    (ho : o.op = .call { callee := .value f, args := av, argTypes := ts }) (hN : dstB o.dst N = true) (hf : ev T f = .fn (.func 9) [] []) (hy : av.toList.map (ev T) = [.int .i64 (k : Int)]) (hall : HL.all (fun p => Nat.ble (p.1 + 1) n) = true) :
    OpOk Try.prog N o T (hget HL) n (.op (n + 1) 0 0) (hget ([(n, slabL (newS k)), (n + 1, slabS n (newS k))] ++ HL)) (n + 2) [] ([] ++ [] ++ (List.range 2).map (n + ·)) := by
  have h0 : hget ([(n, slabL (newS k)), (n + 1, slabS n (newS k))] ++ HL) n = some (slabL (newS k)) := by
    show (match Nat.beq n n with | true => some _ | false => _) = _
    rw [Nat.beq_refl]
  have h1 : hget ([(n, slabL (newS k)), (n + 1, slabS n (newS k))] ++ HL) (n + 1) = some (slabS n (newS k)) := by
    show (match Nat.beq (n + 1) n with | true => some _ | false => (match Nat.beq (n + 1) (n + 1) with | true => some _ | false => _)) = _
    rw [beq_ne (by omega), Nat.beq_refl]
  refine oCallO [] [(n, slabL (newS k)), (n + 1, slabS n (newS k))] ho hN hf hy (new_ok k hk) (by simp) trivial .cv rfl ⟨⟨_, h0, ⟨rfl, rfl, rfl, .snap (flatMap_snap _)⟩⟩, ⟨_, h1, ⟨rfl, rfl, rfl, .cons (.os ⟨by simp, rfl⟩) (.cons .cv (.cons .cv (.cons .cv .nil)))⟩⟩, trivial⟩ rfl (by simp) (.op ⟨by simp, rfl⟩)
end
theorem newS_wf {k : Nat} (h : k ≤ 4096) : (newS k).wf := ⟨by simpa [newS] using h, fun x hx => by
  have : x = secD := by simpa [newS] using (List.eq_of_mem_replicate hx)
  subst this
  exact ⟨(fun _ h => nomatch h), (fun _ h => nomatch h)⟩⟩
theorem ink_wf {s : Slb} (h : s.wf) (n : Int) (p : List UInt8) : (s.ink n p).2.wf := by
  unfold Slb.ink
  split
  · exact h
  · rename_i hl
    split
    · exact h
    · rename_i hp
      obtain ⟨_, h0, h1⟩ := look0 (by simpa using hl)
      exact wf_setInk (wf_struck h) (by rw [struck_l]; omega) (by simpa using hp)
theorem burn1_wf {s t : Slb} (h : s.wf) {i : Nat} (e : s.burn1 i = some t) : t.wf := by
  unfold Slb.burn1 at e
  cases hk : (s.l.getD i secD).ink with
  | none => rw [hk] at e; injection e with e; subst e; exact h
  | some b =>
    rw [hk] at e
    simp only at e
    split at e
    · cases e
    · injection e with e
      subst e
      refine wf_setBurn (wf_struck h) ?_
      rcases Nat.lt_or_ge i s.l.length with hi | hi
      · rw [List.getD_eq_getElem?_getD, List.getElem?_eq_getElem hi] at hk
        exact (h.2 _ (List.getElem_mem hi)).2 b hk
      · rw [List.getD_eq_getElem?_getD, List.getElem?_eq_none hi] at hk
        cases hk
theorem burnGo_wf : ∀ (k i : Nat) {s : Slb}, s.wf → (Slb.burnGo k i s).2.wf
  | 0, _, _, h => h
  | k + 1, i, s, h => by
    unfold Slb.burnGo
    cases e : s.burn1 i with
    | none => exact h
    | some t => exact burnGo_wf k (i + 1) (burn1_wf h e)
theorem burn_wf {s : Slb} (h : s.wf) : s.burn.2.wf := by
  unfold Slb.burn
  split
  · exact h
  · exact burnGo_wf _ _ h
theorem supplied_wf {s : Slb} (h : s.wf) (n : Int) : (s.supplied n).wf := by
  unfold Slb.supplied; split <;> exact h
theorem wake_wf {s : Slb} (h : s.wf) (M : List Scr) : (s.wake M).wf := by
  refine ⟨by simpa [Slb.wake] using h.1, fun x hx => ?_⟩
  obtain ⟨i, hi, rfl⟩ := List.mem_mapIdx.1 hx
  refine ⟨fun b hb => ?_, fun b hb => by cases hb⟩
  have hm := h.2 _ (List.getElem_mem hi)
  simp only at hb
  split at hb
  · split at hb
    · injection hb with hb; rw [← hb]; exact pad_len _
    · exact hm.1 b hb
  · exact hm.1 b hb
theorem do_wf {s : Slb} (h : s.wf) (d : Deed) : (s.do_ d).wf := by
  unfold Slb.do_
  split
  · exact ink_wf h _ _
  · split
    · exact burn_wf h
    · split
      · exact supplied_wf h _
      · split
        · exact wake_wf h _
        · exact h
theorem plain2 : Ctr Try.prog 13 [.int .u8 2] (.ro false 64 (pb (plain 2))) := plain_ctr 2
theorem plain5 : Ctr Try.prog 13 [.int .u8 5] (.ro false 64 (pb (plain 5))) := plain_ctr 5
theorem plain0 : Ctr Try.prog 13 [.int .u8 0] (.ro false 64 (pb (plain 0))) := plain_ctr 0
def livesS : Slb := ((((newS 8).supplied 3).ink 5 (plain 5)).2.ink 2 (plain 2)).2
theorem lives_ctr : Ctr Try.prog 10 [] (.bool true) := by
  refine ctr_go 64 [] Try.func10 rfl rfl rfl all_nil ?_
  have w0 : (newS 8).wf := newS_wf (by decide)
  have w1 := supplied_wf w0 3
  have w2 := ink_wf w1 5 (plain 5)
  have w3 := ink_wf w2 2 (plain 2)
  have w4 := burn_wf w3
  have w5 := wake_wf w4 []
  have e1 : (((newS 8).supplied 3).ink 5 (plain 5)).1 = 0 := by decide
  have e2 : ((((newS 8).supplied 3).ink 5 (plain 5)).2.ink 2 (plain 2)).1 = 0 := by decide
  have e3 : (((((newS 8).supplied 3).ink 5 (plain 5)).2.ink 2 (plain 2)).2.burn).1 = 12 := by decide
  have e4 : (((((newS 8).supplied 3).ink 5 (plain 5)).2.ink 2 (plain 2)).2.burn.2.wake []).lookE 2 = 0 := by decide
  have e5 : (((((newS 8).supplied 3).ink 5 (plain 5)).2.ink 2 (plain 2)).2.burn.2.wake []).lookE 5 = 0 := by decide
  have e6 : (((((newS 8).supplied 3).ink 5 (plain 5)).2.ink 2 (plain 2)).2.burn.2.wake []).face (Int.toNat 2) = plain 2 := by decide
  have e7 : (((((newS 8).supplied 3).ink 5 (plain 5)).2.ink 2 (plain 2)).2.burn.2.wake []).face (Int.toNat 5) = plain 0 := by decide
  (repeat refine lwp_seq_k fun K hK => ?_)
  refine lw_region ?_
  refine RL.qa (oAssign rfl rfl ev_a) ?_
  refine RL.done ?_
  refine hK _ ?_
  clear hK K
  (repeat refine lwp_seq_k fun K hK => ?_)
  refine lw_region ?_
  refine RL.wsa (oNew 8 (by decide) rfl rfl ev_a evs_a rfl) ?_
  refine RL.qa (oAssign rfl rfl ev_a) ?_
  refine RL.done ?_
  refine hK _ ?_
  clear hK K
  (repeat refine lwp_seq_k fun K hK => ?_)
  refine lw_region ?_
  refine RL.qa (oMove rfl rfl ev_a) ?_
  refine RL.wsa (oSlab 1 0 rfl rfl ev_a evs_a (supply_ctr (newS 8) 3) rfl rfl rfl (by rfl) rfl) ?_
  refine RL.done ?_
  refine hK _ ?_
  clear hK K
  generalize (newS 8).supplied 3 = s1 at *
  (repeat refine lwp_seq_k fun K hK => ?_)
  refine lw_region ?_
  refine RL.qa (oMove rfl rfl ev_a) ?_
  refine RL.qa (oCallC rfl rfl ev_a evs_a (plain5)) ?_
  refine RL.wsa (oSlab 1 0 rfl rfl ev_a evs_a (ink_plain s1 w1 5 5) rfl rfl rfl (by rfl) rfl) ?_
  refine RL.qa (oMove rfl rfl ev_a) ?_
  refine RL.qa (oCallC rfl rfl ev_a evs_a (plain2)) ?_
  refine RL.wsa (oSlab 1 0 rfl rfl ev_a evs_a (ink_plain (s1.ink 5 (plain 5)).2 w2 2 2) rfl rfl rfl (by rfl) rfl) ?_
  refine RL.qa (oMove rfl rfl ev_a) ?_
  refine RL.wsa (oSlab 1 0 rfl rfl ev_a evs_a (burn_ctr ((s1.ink 5 (plain 5)).2.ink 2 (plain 2)).2 w3) rfl rfl rfl (by rfl) rfl) ?_
  refine RL.qa (oAssign rfl rfl ev_a) ?_
  refine RL.qa (oAssign rfl rfl ev_a) ?_
  refine RL.qa (oAssign rfl rfl ev_a) ?_
  refine RL.done ?_
  refine hK _ ?_
  clear hK K
  rw [e1, e2, e3]
  clear e1 e2 e3
  generalize ((s1.ink 5 (plain 5)).2.ink 2 (plain 2)).2.burn.2 = s4 at *
  (repeat refine lwp_seq_k fun K hK => ?_)
  refine lw_region ?_
  refine RL.qa (oMove rfl rfl ev_a) ?_
  refine RL.wsa (oSlab 1 0 rfl rfl ev_a evs_a (wake_nil s4 w4) rfl rfl rfl (by rfl) rfl) ?_
  refine RL.done ?_
  refine hK _ ?_
  clear hK K
  generalize s4.wake [] = s5 at *
  (repeat refine lwp_seq_k fun K hK => ?_)
  refine lw_region ?_
  refine RL.qa (oMove rfl rfl ev_a) ?_
  refine RL.wsa (oSlab 1 0 rfl rfl ev_a evs_a (face_ok s5 2 w5 e4) rfl rfl rfl (by rfl) rfl) ?_
  refine RL.qa (oMove rfl rfl ev_a) ?_
  refine RL.qa (oExtract rfl rfl ev_a (by rfl)) ?_
  refine RL.qa (oExtract rfl rfl ev_a (by rfl)) ?_
  refine RL.qa (oAssign rfl rfl ev_a) ?_
  refine RL.qa (oAssign rfl rfl ev_a) ?_
  refine RL.done ?_
  refine hK _ ?_
  clear hK K
  (repeat refine lwp_seq_k fun K hK => ?_)
  refine lw_region ?_
  refine RL.qa (oMove rfl rfl ev_a) ?_
  refine RL.wsa (oSlab 1 0 rfl rfl ev_a evs_a (face_ok s5 5 w5 e5) rfl rfl rfl (by rfl) rfl) ?_
  refine RL.qa (oMove rfl rfl ev_a) ?_
  refine RL.qa (oExtract rfl rfl ev_a (by rfl)) ?_
  refine RL.qa (oExtract rfl rfl ev_a (by rfl)) ?_
  refine RL.qa (oAssign rfl rfl ev_a) ?_
  refine RL.qa (oAssign rfl rfl ev_a) ?_
  refine RL.done ?_
  refine hK _ ?_
  clear hK K
  rw [e6, e7]
  (repeat refine lwp_seq_k fun K hK => ?_)
  refine lw_region_any (by kernel_rfl) ?_
  refine RL.qa (oMove rfl rfl ev_a) ?_
  first | (refine RL.qa (oBin rfl rfl ev_a ev_a (by rfl)) ?_) | (refine RL.qa (oStr rfl rfl ev_a ev_a (by rfl)) ?_)
  refine RL.qa (oMove rfl rfl ev_a) ?_
  first | (refine RL.skipA ?_) | (refine RL.wantA ?_; refine RL.qa (oMove rfl rfl ev_a) ?_)
  first | (refine RL.skipA ?_) | (refine RL.wantA ?_; (first | (refine RL.qa (oBin rfl rfl ev_a ev_a (by rfl)) ?_) | (refine RL.qa (oStr rfl rfl ev_a ev_a (by rfl)) ?_)))
  first | (refine RL.qa (oPickT rfl rfl ev_a ev_a) ?_) | (refine RL.qa (oPickF rfl rfl ev_a ev_a) ?_)
  refine RL.qa (oMove rfl rfl ev_a) ?_
  first | (refine RL.skipA ?_) | (refine RL.wantA ?_; refine RL.qa (oMove rfl rfl ev_a) ?_)
  first | (refine RL.skipA ?_) | (refine RL.wantA ?_; (first | (refine RL.qa (oBin rfl rfl ev_a ev_a (by rfl)) ?_) | (refine RL.qa (oStr rfl rfl ev_a ev_a (by rfl)) ?_)))
  first | (refine RL.qa (oPickT rfl rfl ev_a ev_a) ?_) | (refine RL.qa (oPickF rfl rfl ev_a ev_a) ?_)
  refine RL.qa (oMove rfl rfl ev_a) ?_
  first | (refine RL.skipA ?_) | (refine RL.wantA ?_; refine RL.qa (oMove rfl rfl ev_a) ?_)
  first | (refine RL.skipA ?_) | (refine RL.wantA ?_; (first | (refine RL.qa (oBin rfl rfl ev_a ev_a (by rfl)) ?_) | (refine RL.qa (oStr rfl rfl ev_a ev_a (by rfl)) ?_)))
  first | (refine RL.qa (oPickT rfl rfl ev_a ev_a) ?_) | (refine RL.qa (oPickF rfl rfl ev_a ev_a) ?_)
  refine RL.qa (oMove rfl rfl ev_a) ?_
  first | (refine RL.skipA ?_) | (refine RL.wantA ?_; refine RL.qa (oMove rfl rfl ev_a) ?_)
  first | (refine RL.skipA ?_) | (refine RL.wantA ?_; (first | (refine RL.qa (oBin rfl rfl ev_a ev_a (by rfl)) ?_) | (refine RL.qa (oStr rfl rfl ev_a ev_a (by rfl)) ?_)))
  first | (refine RL.qa (oPickT rfl rfl ev_a ev_a) ?_) | (refine RL.qa (oPickF rfl rfl ev_a ev_a) ?_)
  refine RL.qa (oMove rfl rfl ev_a) ?_
  first | (refine RL.skipA ?_) | (refine RL.wantA ?_; refine RL.qa (oMove rfl rfl ev_a) ?_)
  first | (refine RL.skipA ?_) | (refine RL.wantA ?_; (first | (refine RL.qa (oConvI rfl rfl ev_a (wrap_i64 (by omega) (by omega))) ?_) | (refine RL.qa (oConvI rfl rfl ev_a (wrap_u64 (by omega) (by omega))) ?_) | (refine RL.qa (oConvI rfl rfl ev_a (wrap_u32 (by omega) (by omega))) ?_) | (refine RL.qa (oConvI rfl rfl ev_a (wrap_u8 (by omega) (by omega))) ?_) | (refine RL.qa (oStrOf rfl rfl ev_a (by rfl) (by first | rfl | assumption | (simp; first | done | fail))) ?_)))
  first | (refine RL.skipA ?_) | (refine RL.wantA ?_; refine RL.qa (oCallC rfl rfl ev_a evs_a (plain2)) ?_)
  first | (refine RL.skipA ?_) | (refine RL.wantA ?_; (first | (refine RL.qa (oConvI rfl rfl ev_a (wrap_i64 (by omega) (by omega))) ?_) | (refine RL.qa (oConvI rfl rfl ev_a (wrap_u64 (by omega) (by omega))) ?_) | (refine RL.qa (oConvI rfl rfl ev_a (wrap_u32 (by omega) (by omega))) ?_) | (refine RL.qa (oConvI rfl rfl ev_a (wrap_u8 (by omega) (by omega))) ?_) | (refine RL.qa (oStrOf rfl rfl ev_a (by rfl) (by first | rfl | assumption | (simp; first | done | fail))) ?_)))
  refine RL.wantA ?_
  refine RL.qa (oStr (v := .bool true) rfl rfl ev_a ev_a (by simp)) ?_
  first | (refine RL.qa (oPickT rfl rfl ev_a ev_a) ?_) | (refine RL.qa (oPickF rfl rfl ev_a ev_a) ?_)
  refine RL.qa (oMove rfl rfl ev_a) ?_
  first | (refine RL.skipA ?_) | (refine RL.wantA ?_; refine RL.qa (oMove rfl rfl ev_a) ?_)
  first | (refine RL.skipA ?_) | (refine RL.wantA ?_; (first | (refine RL.qa (oConvI rfl rfl ev_a (wrap_i64 (by omega) (by omega))) ?_) | (refine RL.qa (oConvI rfl rfl ev_a (wrap_u64 (by omega) (by omega))) ?_) | (refine RL.qa (oConvI rfl rfl ev_a (wrap_u32 (by omega) (by omega))) ?_) | (refine RL.qa (oConvI rfl rfl ev_a (wrap_u8 (by omega) (by omega))) ?_) | (refine RL.qa (oStrOf rfl rfl ev_a (by rfl) (by first | rfl | assumption | (simp; first | done | fail))) ?_)))
  first | (refine RL.skipA ?_) | (refine RL.wantA ?_; refine RL.qa (oCallC rfl rfl ev_a evs_a (plain0)) ?_)
  first | (refine RL.skipA ?_) | (refine RL.wantA ?_; (first | (refine RL.qa (oConvI rfl rfl ev_a (wrap_i64 (by omega) (by omega))) ?_) | (refine RL.qa (oConvI rfl rfl ev_a (wrap_u64 (by omega) (by omega))) ?_) | (refine RL.qa (oConvI rfl rfl ev_a (wrap_u32 (by omega) (by omega))) ?_) | (refine RL.qa (oConvI rfl rfl ev_a (wrap_u8 (by omega) (by omega))) ?_) | (refine RL.qa (oStrOf rfl rfl ev_a (by rfl) (by first | rfl | assumption | (simp; first | done | fail))) ?_)))
  refine RL.wantA ?_
  refine RL.qa (oStr (v := .bool true) rfl rfl ev_a ev_a (by simp)) ?_
  first | (refine RL.qa (oPickT rfl rfl ev_a ev_a) ?_) | (refine RL.qa (oPickF rfl rfl ev_a ev_a) ?_)
  refine RL.qa (oAssign rfl rfl ev_a) ?_
  refine RL.done ⟨by kernel_rfl, ?_⟩
  refine hK _ ?_
  clear hK K
  exact lwp_ret ⟨.inr rfl, ret1c rfl (by ((repeat (apply Lk.there; focus rfl)); exact Lk.here))⟩
end Go.Proofs.Ythnjhhohfhnhgaa
