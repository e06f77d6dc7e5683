/- The slab's Supply, Strokes, Sectors, New, Inked, Burn. -/
import Derived.Test.YthnjhhohfhnhgaaSlabC
import Derived.Test.YthnjhhohfhnhgaaPvLoop
namespace Go.Proofs.Ythnjhhohfhnhgaa
open Go Go.RowKit
set_option maxRecDepth 10000
theorem sectors_ctr (s : Slb) : SlabC 22 s [] (.int .i64 s.l.length) s 0 := by
  refine ctrO_go 10 [(0, .op 0 0 0)] [(0, slabS 1 s), (1, slabL s)] Try.func22 rfl rfl rfl (all_cons rfl all_nil) (all_cons rfl (all_cons rfl all_nil)) ?_
  (repeat refine lwp_seq_k fun K hK => ?_)
  refine lw_region ?_
  refine RL.qa (oAssign rfl rfl ev_a) ?_
  refine RL.done ?_
  refine hK _ ?_
  clear hK K
  (repeat refine lwp_seq_k fun K hK => ?_)
  refine lw_region ?_
  refine RL.qa (oMove rfl rfl ev_a) ?_
  refine RL.qa (oEqNil (neg := false) rfl rfl ev_a rfl (by rfl) rfl (by rfl)) ?_
  refine RL.done ?_
  refine hK _ ?_
  clear hK K
  (repeat refine lwp_seq_k fun K hK => ?_)
  refine lw_condF (by (first | (apply ev_tmp; ((repeat (apply Lk.there; focus rfl)); exact Lk.here)) | exact ev_cint | exact ev_cbool | exact ev_cnilp | exact ev_cnils | exact ev_func | exact ev_cstr | exact ev_cnilf | exact ev_cnili)) ?_
  refine lwp_skip (hK _ ?_)
  clear hK K
  (repeat refine lwp_seq_k fun K hK => ?_)
  refine lw_region ?_
  refine RL.qa (oMove rfl rfl ev_a) ?_
  refine RL.qa (oNilCheck rfl rfl ev_a (by rfl) (by rfl)) ?_
  refine RL.qa (oFieldAddr rfl rfl ev_a (by decide) (by rfl)) ?_
  refine RL.qa (oLoad rfl rfl ev_a (by rfl) (by rfl)) ?_
  first | (refine RL.qa (oLen rfl rfl rfl ev_a (by rfl)) ?_) | (refine RL.qa (oLenStr rfl rfl rfl ev_a) ?_) | (refine RL.qa (oLenArr rfl rfl rfl) ?_)
  refine RL.qa (oAssign rfl rfl ev_a) ?_
  refine RL.done ?_
  refine hK _ ?_
  clear hK K
  exact lwp_ret ⟨.inr rfl, end_of rfl ⟨rfl, rfl, trivial⟩ (retO1 rfl (by ((repeat (apply Lk.there; focus rfl)); exact Lk.here)) (.eq rfl))⟩
theorem sectors_nil : Ctr Try.prog 22 [.nilp] (.int .i64 0) := by
  refine ctr_go 10 [(0, .nilp)] Try.func22 rfl rfl rfl (all_cons rfl all_nil) ?_
  (repeat refine lwp_seq_k fun K hK => ?_)
  refine lw_region ?_
  refine RL.qa (oAssign rfl rfl ev_a) ?_
  refine RL.done ?_
  refine hK _ ?_
  clear hK K
  (repeat refine lwp_seq_k fun K hK => ?_)
  refine lw_region ?_
  refine RL.qa (oMove rfl rfl ev_a) ?_
  refine RL.qa (oEqNil (neg := false) rfl rfl ev_a rfl (by rfl) rfl (by rfl)) ?_
  refine RL.done ?_
  refine hK _ ?_
  clear hK K
  (repeat refine lwp_seq_k fun K hK => ?_)
  refine lw_condT (by (first | (apply ev_tmp; ((repeat (apply Lk.there; focus rfl)); exact Lk.here)) | exact ev_cint | exact ev_cbool | exact ev_cnilp | exact ev_cnils | exact ev_func | exact ev_cstr | exact ev_cnilf | exact ev_cnili)) ?_
  (repeat refine lwp_seq_k fun K hK => ?_)
  refine lw_region ?_
  refine RL.qa (oAssign rfl rfl ev_a) ?_
  refine RL.done ?_
  refine hK _ ?_
  clear hK K
  exact lwp_ret ⟨.inr rfl, ret1c rfl (by ((repeat (apply Lk.there; focus rfl)); exact Lk.here))⟩
theorem strokes_ctr (s : Slb) : SlabC 19 s [] (.int .i64 s.strokes) s 0 := by
  refine ctrO_go 9 [(0, .op 0 0 0)] [(0, slabS 1 s), (1, slabL s)] Try.func19 rfl rfl rfl (all_cons rfl all_nil) (all_cons rfl (all_cons rfl all_nil)) ?_
  (repeat refine lwp_seq_k fun K hK => ?_)
  refine lw_region ?_
  refine RL.qa (oAssign rfl rfl ev_a) ?_
  refine RL.done ?_
  refine hK _ ?_
  clear hK K
  (repeat refine lwp_seq_k fun K hK => ?_)
  refine lw_region ?_
  refine RL.qa (oMove rfl rfl ev_a) ?_
  refine RL.qa (oEqNil (neg := false) rfl rfl ev_a rfl (by rfl) rfl (by rfl)) ?_
  refine RL.done ?_
  refine hK _ ?_
  clear hK K
  (repeat refine lwp_seq_k fun K hK => ?_)
  refine lw_condF (by (first | (apply ev_tmp; ((repeat (apply Lk.there; focus rfl)); exact Lk.here)) | exact ev_cint | exact ev_cbool | exact ev_cnilp | exact ev_cnils | exact ev_func | exact ev_cstr | exact ev_cnilf | exact ev_cnili)) ?_
  refine lwp_skip (hK _ ?_)
  clear hK K
  (repeat refine lwp_seq_k fun K hK => ?_)
  refine lw_region ?_
  refine RL.qa (oMove rfl rfl ev_a) ?_
  refine RL.qa (oNilCheck rfl rfl ev_a (by rfl) (by rfl)) ?_
  refine RL.qa (oFieldAddr rfl rfl ev_a (by decide) (by rfl)) ?_
  refine RL.qa (oLoad rfl rfl ev_a (by rfl) (by rfl)) ?_
  refine RL.qa (oAssign rfl rfl ev_a) ?_
  refine RL.done ?_
  refine hK _ ?_
  clear hK K
  exact lwp_ret ⟨.inr rfl, end_of rfl ⟨rfl, rfl, trivial⟩ (retO1 rfl (by ((repeat (apply Lk.there; focus rfl)); exact Lk.here)) (.eq rfl))⟩
theorem strokes_nil : Ctr Try.prog 19 [.nilp] (.int .i64 0) := by
  refine ctr_go 9 [(0, .nilp)] Try.func19 rfl rfl rfl (all_cons rfl all_nil) ?_
  (repeat refine lwp_seq_k fun K hK => ?_)
  refine lw_region ?_
  refine RL.qa (oAssign rfl rfl ev_a) ?_
  refine RL.done ?_
  refine hK _ ?_
  clear hK K
  (repeat refine lwp_seq_k fun K hK => ?_)
  refine lw_region ?_
  refine RL.qa (oMove rfl rfl ev_a) ?_
  refine RL.qa (oEqNil (neg := false) rfl rfl ev_a rfl (by rfl) rfl (by rfl)) ?_
  refine RL.done ?_
  refine hK _ ?_
  clear hK K
  (repeat refine lwp_seq_k fun K hK => ?_)
  refine lw_condT (by (first | (apply ev_tmp; ((repeat (apply Lk.there; focus rfl)); exact Lk.here)) | exact ev_cint | exact ev_cbool | exact ev_cnilp | exact ev_cnils | exact ev_func | exact ev_cstr | exact ev_cnilf | exact ev_cnili)) ?_
  (repeat refine lwp_seq_k fun K hK => ?_)
  refine lw_region ?_
  refine RL.qa (oAssign rfl rfl ev_a) ?_
  refine RL.done ?_
  refine hK _ ?_
  clear hK K
  exact lwp_ret ⟨.inr rfl, ret1c rfl (by ((repeat (apply Lk.there; focus rfl)); exact Lk.here))⟩
theorem supply_ctr (s : Slb) (n : Int) : SlabC 18 s [.int .i64 n] (.tup []) (s.supplied n) 0 := by
  refine ctrO_go 20 [(0, .op 0 0 0), (1, .int .i64 n)] [(0, slabS 1 s), (1, slabL s)] Try.func18 rfl rfl rfl (all_cons rfl (all_cons rfl all_nil)) (all_cons rfl (all_cons rfl all_nil)) ?_
  (repeat refine lwp_seq_k fun K hK => ?_)
  refine lw_region ?_
  refine RL.qa (oMove rfl rfl ev_a) ?_
  refine RL.qa (oEqNil (neg := false) rfl rfl ev_a rfl (by rfl) rfl (by rfl)) ?_
  refine RL.qa (oMove rfl rfl ev_a) ?_
  first | (refine RL.skipA ?_) | (refine RL.wantA ?_; refine RL.qa (oMove rfl rfl ev_a) ?_)
  first | (refine RL.skipA ?_) | (refine RL.wantA ?_; refine RL.wsa (oSlab 0 1 rfl rfl ev_a evs_a (out_ctr s) rfl rfl rfl (by rfl) rfl) ?_)
  first | (refine RL.qa (oPickT rfl rfl ev_a ev_a) ?_) | (refine RL.qa (oPickF rfl rfl ev_a ev_a) ?_)
  refine RL.done ?_
  refine hK _ ?_
  clear hK K
  (repeat refine lwp_seq_k fun K hK => ?_)
  refine lwp_cond (by (first | (apply ev_tmp; ((repeat (apply Lk.there; focus rfl)); exact Lk.here)) | exact ev_cint | exact ev_cbool | exact ev_cnilp | exact ev_cnils | exact ev_func | exact ev_cstr | exact ev_cnilf | exact ev_cnili)) (fun ho => ?_) (fun ho => ?_)
  · rw [Slb.supplied, if_pos ho]
    exact lwp_ret ⟨.inr rfl, end_of rfl ⟨rfl, rfl, trivial⟩ (retO0 rfl)⟩
  · refine lwp_skip (hK _ ?_)
    clear hK K
    rw [Slb.supplied, if_neg (by simp [ho])]
    (repeat refine lwp_seq_k fun K hK => ?_)
    refine lw_region ?_
    refine RL.qa (oMove rfl rfl ev_a) ?_
    refine RL.qa (oMove rfl rfl ev_a) ?_
    refine RL.qa (oMove rfl rfl ev_a) ?_
    refine RL.qa (oBin rfl rfl ev_a ev_a (by rfl)) ?_
    refine RL.qa (oMove rfl rfl ev_a) ?_
    first | (refine RL.qa (oMaxN rfl rfl ev_a ev_a) ?_) | (refine RL.qa (oMinMax true rfl rfl ev_a ev_a) ?_)
    refine RL.qa (oNilCheck rfl rfl ev_a (by rfl) (by rfl)) ?_
    refine RL.qa (oFieldAddr rfl rfl ev_a (by decide) (by rfl)) ?_
    refine RL.w0a (oStore rfl rfl ev_a (by rfl) (by rfl) ev_a (by rfl) (by simp [cellsPV, leaf]) (by rfl) (Nat.zero_le _) (by first | exact Nat.le_of_ble_eq_true rfl | (simp [length_setAt, length_secs, slabS, slabL]; first | done | omega)) (by rfl)) ?_
    refine RL.qa (oNilCheck rfl rfl ev_a (by rfl) (by rfl)) ?_
    refine RL.qa (oFieldAddr rfl rfl ev_a (by decide) (by rfl)) ?_
    refine RL.w0a (oStore rfl rfl ev_a (by rfl) (by rfl) ev_a (by rfl) (by simp [cellsPV, leaf]) (by rfl) (Nat.zero_le _) (by first | exact Nat.le_of_ble_eq_true rfl | (simp [length_setAt, length_secs, slabS, slabL]; first | done | omega)) (by rfl)) ?_
    refine RL.done ?_
    exact ⟨.inl rfl, end_of rfl ⟨rfl, rfl, trivial⟩ (retO0 rfl)⟩
theorem supply_nil (n : Int) : Ctr Try.prog 18 [.nilp, .int .i64 n] (.tup []) := by
  refine ctr_go 20 [(0, .nilp), (1, .int .i64 n)] Try.func18 rfl rfl rfl (all_cons rfl (all_cons rfl all_nil)) ?_
  (repeat refine lwp_seq_k fun K hK => ?_)
  refine lw_region ?_
  refine RL.qa (oMove rfl rfl ev_a) ?_
  refine RL.qa (oEqNil (neg := false) rfl rfl ev_a rfl (by rfl) rfl (by rfl)) ?_
  refine RL.qa (oMove rfl rfl ev_a) ?_
  first | (refine RL.skipA ?_) | (refine RL.wantA ?_; refine RL.qa (oMove rfl rfl ev_a) ?_)
  first | (refine RL.skipA ?_) | (refine RL.wantA ?_; refine RL.qa (oCallC rfl rfl ev_a evs_a (out_nil)) ?_)
  first | (refine RL.qa (oPickT rfl rfl ev_a ev_a) ?_) | (refine RL.qa (oPickF rfl rfl ev_a ev_a) ?_)
  refine RL.done ?_
  refine hK _ ?_
  clear hK K
  (repeat refine lwp_seq_k fun K hK => ?_)
  refine lw_condT (by (first | (apply ev_tmp; ((repeat (apply Lk.there; focus rfl)); exact Lk.here)) | exact ev_cint | exact ev_cbool | exact ev_cnilp | exact ev_cnils | exact ev_func | exact ev_cstr | exact ev_cnilf | exact ev_cnili)) ?_
  exact lwp_ret ⟨.inr rfl, .tup [], [], .none rfl, Cl.out _ _⟩
/-- A new slab. -/
def newS (n : Nat) : Slb := ⟨List.replicate n secD, true, 0, 0⟩
theorem zeros_secs (n : Nat) : zerosPV (.agg #[.slice none 0 0, .slice none 0 0]) 2 n = (List.replicate n secD).flatMap secPV := by
  have h : ∀ (xs : List PV), (∀ x ∈ xs, x = .nils) → xs = List.replicate xs.length .nils := fun xs h => List.eq_replicate_iff.2 ⟨rfl, h⟩
  have h1 := h (zerosPV (.agg #[.slice none 0 0, .slice none 0 0]) 2 n) (fun x hx => by
    simp only [zerosPV, List.mem_map] at hx
    obtain ⟨i, _, rfl⟩ := hx
    have : i % 2 = 0 ∨ i % 2 = 1 := by omega
    rcases this with h | h <;> rw [h] <;> rfl)
  have h2 := h ((List.replicate n secD).flatMap secPV) (fun x hx => by
    obtain ⟨s, hs, hx⟩ := List.mem_flatMap.1 hx
    obtain rfl := (List.mem_replicate.1 hs).2
    simp [secPV, ofO] at hx
    exact hx)
  rw [h1, h2, length_secs]
  simp [zerosPV]
theorem new_ok (n : Nat) (h : 4 ≤ n ∧ n ≤ 4096) : CtrO Try.prog 9 [] [.int .i64 n] (.op 1 0 0) [some (slabL (newS n)), some (slabS 0 (newS n))] := by
  refine ctrO_go 13 [(0, .int .i64 n)] [] Try.func9 rfl rfl rfl (all_cons rfl all_nil) all_nil ?_
  (repeat refine lwp_seq_k fun K hK => ?_)
  refine lw_region ?_
  refine RL.qa (oAssign rfl rfl ev_a) ?_
  refine RL.done ?_
  refine hK _ ?_
  clear hK K
  (repeat refine lwp_seq_k fun K hK => ?_)
  refine lw_region ?_
  refine RL.qa (oMove rfl rfl ev_a) ?_
  refine RL.qa (oBin (v := .bool false) rfl rfl ev_a ev_a (by simp [binI]; omega)) ?_
  refine RL.qa (oMove rfl rfl ev_a) ?_
  first | (refine RL.skipA ?_) | (refine RL.wantA ?_; refine RL.qa (oMove rfl rfl ev_a) ?_)
  refine RL.wantA ?_
  refine RL.qa (oBin (v := .bool false) rfl rfl ev_a ev_a (by simp [binI]; omega)) ?_
  first | (refine RL.qa (oPickT rfl rfl ev_a ev_a) ?_) | (refine RL.qa (oPickF rfl rfl ev_a ev_a) ?_)
  refine RL.done ?_
  refine hK _ ?_
  clear hK K
  (repeat refine lwp_seq_k fun K hK => ?_)
  refine lw_condF (by (first | (apply ev_tmp; ((repeat (apply Lk.there; focus rfl)); exact Lk.here)) | exact ev_cint | exact ev_cbool | exact ev_cnilp | exact ev_cnils | exact ev_func | exact ev_cstr | exact ev_cnilf | exact ev_cnili)) ?_
  refine lwp_skip (hK _ ?_)
  clear hK K
  (repeat refine lwp_seq_k fun K hK => ?_)
  refine lw_region ?_
  refine RL.qa (oMove rfl rfl ev_a) ?_
  refine RL.wa (oMake rfl rfl ev_a ev_a (by omega) (by omega) (by omega) (by omega) (by rfl) (by decide)) ?_
  first | (refine RL.qa (oBuildS rfl rfl evp_a (by rfl)) ?_) | (refine RL.qa (oBuildA rfl rfl evp_a (by rfl)) ?_)
  refine RL.wa (oBox 1 (Nat.succ_pos 0) rfl rfl ev_a rfl rfl) ?_
  refine RL.qa (oAssign rfl rfl ev_a) ?_
  refine RL.done ?_
  refine hK _ ?_
  clear hK K
  refine lwp_ret ⟨.inr rfl, end_of rfl ⟨?_, ?_, trivial⟩ (retO1 rfl (by ((repeat (apply Lk.there; focus rfl)); exact Lk.here)) (.op ⟨rfl, _, rfl⟩))⟩
  · show some (Blk'.mk 0 2 0 (zerosPV _ 2 _)) = _
    rw [zeros_secs]
    simp [slabL, newS]
  · simp [slabS, newS]
    rfl
theorem new_no (n : Int) (h : n < 4 ∨ 4096 < n) : Ctr Try.prog 9 [.int .i64 n] .nilp := by
  refine ctr_go 13 [(0, .int .i64 n)] Try.func9 rfl rfl rfl (all_cons rfl all_nil) ?_
  (repeat refine lwp_seq_k fun K hK => ?_)
  refine lw_region ?_
  refine RL.qa (oAssign rfl rfl ev_a) ?_
  refine RL.done ?_
  refine hK _ ?_
  clear hK K
  by_cases h1 : n < 4
  · (repeat refine lwp_seq_k fun K hK => ?_)
    refine lw_region ?_
    refine RL.qa (oMove rfl rfl ev_a) ?_
    refine RL.qa (oBin (v := .bool true) rfl rfl ev_a ev_a (by simp [binI]; omega)) ?_
    refine RL.qa (oMove rfl rfl ev_a) ?_
    first | (refine RL.skipA ?_) | (refine RL.wantA ?_; refine RL.qa (oMove rfl rfl ev_a) ?_)
    first | (refine RL.skipA ?_) | (refine RL.wantA ?_; refine RL.qa (oBin rfl rfl ev_a ev_a (by rfl)) ?_)
    first | (refine RL.qa (oPickT rfl rfl ev_a ev_a) ?_) | (refine RL.qa (oPickF rfl rfl ev_a ev_a) ?_)
    refine RL.done ?_
    refine hK _ ?_
    clear hK K
    (repeat refine lwp_seq_k fun K hK => ?_)
    refine lw_condT (by (first | (apply ev_tmp; ((repeat (apply Lk.there; focus rfl)); exact Lk.here)) | exact ev_cint | exact ev_cbool | exact ev_cnilp | exact ev_cnils | exact ev_func | exact ev_cstr | exact ev_cnilf | exact ev_cnili)) ?_
    (repeat refine lwp_seq_k fun K hK => ?_)
    refine lw_region ?_
    refine RL.qa (oAssign rfl rfl ev_a) ?_
    refine RL.done ?_
    refine hK _ ?_
    clear hK K
    exact lwp_ret ⟨.inr rfl, ret1c rfl (by ((repeat (apply Lk.there; focus rfl)); exact Lk.here))⟩
  · (repeat refine lwp_seq_k fun K hK => ?_)
    refine lw_region ?_
    refine RL.qa (oMove rfl rfl ev_a) ?_
    refine RL.qa (oBin (v := .bool false) rfl rfl ev_a ev_a (by simp [binI]; omega)) ?_
    refine RL.qa (oMove rfl rfl ev_a) ?_
    first | (refine RL.skipA ?_) | (refine RL.wantA ?_; refine RL.qa (oMove rfl rfl ev_a) ?_)
    refine RL.wantA ?_
    refine RL.qa (oBin (v := .bool true) rfl rfl ev_a ev_a (by simp [binI]; omega)) ?_
    first | (refine RL.qa (oPickT rfl rfl ev_a ev_a) ?_) | (refine RL.qa (oPickF rfl rfl ev_a ev_a) ?_)
    refine RL.done ?_
    refine hK _ ?_
    clear hK K
    (repeat refine lwp_seq_k fun K hK => ?_)
    refine lw_condT (by (first | (apply ev_tmp; ((repeat (apply Lk.there; focus rfl)); exact Lk.here)) | exact ev_cint | exact ev_cbool | exact ev_cnilp | exact ev_cnils | exact ev_func | exact ev_cstr | exact ev_cnilf | exact ev_cnili)) ?_
    (repeat refine lwp_seq_k fun K hK => ?_)
    refine lw_region ?_
    refine RL.qa (oAssign rfl rfl ev_a) ?_
    refine RL.done ?_
    refine hK _ ?_
    clear hK K
    exact lwp_ret ⟨.inr rfl, ret1c rfl (by ((repeat (apply Lk.there; focus rfl)); exact Lk.here))⟩
end Go.Proofs.Ythnjhhohfhnhgaa
