/- The slab's small methods. -/
import Derived.Test.YthnjhhohfhnhgaaSlab
namespace Go.Proofs.Ythnjhhohfhnhgaa
open Go Go.RowKit
set_option maxRecDepth 10000

def Slb.out (s : Slb) : Bool := !s.endless && decide (s.supply = 0)
def Slb.lookE (s : Slb) (n : Int) : Int := if s.out then 12 else if n < 0 ∨ n ≥ s.l.length then 2 else 0
def Slb.struck (s : Slb) : Slb := if s.out then s else ⟨s.l, s.endless, if s.endless then s.supply else IntKind.wrap .i64 (s.supply - 1), IntKind.wrap .i64 (s.strokes + 1)⟩
def Slb.supplied (s : Slb) (n : Int) : Slb := if s.out then s else ⟨s.l, decide (n < 0), max n 0, s.strokes⟩
theorem out_ctr (s : Slb) : SlabC 20 s [] (.bool s.out) s 0 := by
  refine ctrO_go 19 [(0, .op 0 0 0)] [(0, slabS 1 s), (1, slabL s)] Try.func20 rfl rfl rfl (all_cons rfl all_nil) (all_cons rfl (all_cons rfl all_nil)) ?_
  obtain ⟨l, e, sup, str⟩ := s
  cases e
  · (repeat refine lwp_seq_k fun K hK => ?_)
    refine lw_region ?_
    refine RL.qa (oAssign rfl rfl ev_a) ?_
    refine RL.done ?_
    refine hK _ ?_
    clear hK K
    (repeat refine lwp_seq_k fun K hK => ?_)
    refine lw_region ?_
    refine RL.qa (oMove rfl rfl ev_a) ?_
    refine RL.qa (oEqNil (neg := true) rfl rfl ev_a rfl (by rfl) rfl (by rfl)) ?_
    refine RL.qa (oMove rfl rfl ev_a) ?_
    first | (refine RL.skipA ?_) | (refine RL.wantA ?_; refine RL.qa (oMove rfl rfl ev_a) ?_)
    first | (refine RL.skipA ?_) | (refine RL.wantA ?_; refine RL.qa (oNilCheck rfl rfl ev_a (by rfl) (by rfl)) ?_)
    first | (refine RL.skipA ?_) | (refine RL.wantA ?_; refine RL.qa (oFieldAddr rfl rfl ev_a (by decide) (by rfl)) ?_)
    first | (refine RL.skipA ?_) | (refine RL.wantA ?_; refine RL.qa (oLoad rfl rfl ev_a (by rfl) (by rfl)) ?_)
    first | (refine RL.skipA ?_) | (refine RL.wantA ?_; refine RL.qa (oNot rfl rfl ev_a) ?_)
    first | (refine RL.qa (oPickT rfl rfl ev_a ev_a) ?_) | (refine RL.qa (oPickF rfl rfl ev_a ev_a) ?_)
    refine RL.qa (oMove rfl rfl ev_a) ?_
    first | (refine RL.skipA ?_) | (refine RL.wantA ?_; refine RL.qa (oMove rfl rfl ev_a) ?_)
    first | (refine RL.skipA ?_) | (refine RL.wantA ?_; refine RL.qa (oNilCheck rfl rfl ev_a (by rfl) (by rfl)) ?_)
    first | (refine RL.skipA ?_) | (refine RL.wantA ?_; refine RL.qa (oFieldAddr rfl rfl ev_a (by decide) (by rfl)) ?_)
    first | (refine RL.skipA ?_) | (refine RL.wantA ?_; refine RL.qa (oLoad rfl rfl ev_a (by rfl) (by rfl)) ?_)
    first | (refine RL.skipA ?_) | (refine RL.wantA ?_; (first | (refine RL.qa (oBin rfl rfl ev_a ev_a (by rfl)) ?_) | (refine RL.qa (oStr rfl rfl ev_a ev_a (by rfl)) ?_)))
    first | (refine RL.qa (oPickT rfl rfl ev_a ev_a) ?_) | (refine RL.qa (oPickF rfl rfl ev_a ev_a) ?_)
    refine RL.qa (oAssign rfl rfl ev_a) ?_
    refine RL.done ?_
    refine hK _ ?_
    clear hK K
    exact lwp_ret ⟨.inr rfl, end_of rfl ⟨rfl, rfl, trivial⟩ (retO1 rfl (by ((repeat (apply Lk.there; focus rfl)); exact Lk.here)) (.eq rfl))⟩
  · (repeat refine lwp_seq_k fun K hK => ?_)
    refine lw_region ?_
    refine RL.qa (oAssign rfl rfl ev_a) ?_
    refine RL.done ?_
    refine hK _ ?_
    clear hK K
    (repeat refine lwp_seq_k fun K hK => ?_)
    refine lw_region ?_
    refine RL.qa (oMove rfl rfl ev_a) ?_
    refine RL.qa (oEqNil (neg := true) rfl rfl ev_a rfl (by rfl) rfl (by rfl)) ?_
    refine RL.qa (oMove rfl rfl ev_a) ?_
    first | (refine RL.skipA ?_) | (refine RL.wantA ?_; refine RL.qa (oMove rfl rfl ev_a) ?_)
    first | (refine RL.skipA ?_) | (refine RL.wantA ?_; refine RL.qa (oNilCheck rfl rfl ev_a (by rfl) (by rfl)) ?_)
    first | (refine RL.skipA ?_) | (refine RL.wantA ?_; refine RL.qa (oFieldAddr rfl rfl ev_a (by decide) (by rfl)) ?_)
    first | (refine RL.skipA ?_) | (refine RL.wantA ?_; refine RL.qa (oLoad rfl rfl ev_a (by rfl) (by rfl)) ?_)
    first | (refine RL.skipA ?_) | (refine RL.wantA ?_; refine RL.qa (oNot rfl rfl ev_a) ?_)
    first | (refine RL.qa (oPickT rfl rfl ev_a ev_a) ?_) | (refine RL.qa (oPickF rfl rfl ev_a ev_a) ?_)
    refine RL.qa (oMove rfl rfl ev_a) ?_
    first | (refine RL.skipA ?_) | (refine RL.wantA ?_; refine RL.qa (oMove rfl rfl ev_a) ?_)
    first | (refine RL.skipA ?_) | (refine RL.wantA ?_; refine RL.qa (oNilCheck rfl rfl ev_a (by rfl) (by rfl)) ?_)
    first | (refine RL.skipA ?_) | (refine RL.wantA ?_; refine RL.qa (oFieldAddr rfl rfl ev_a (by decide) (by rfl)) ?_)
    first | (refine RL.skipA ?_) | (refine RL.wantA ?_; refine RL.qa (oLoad rfl rfl ev_a (by rfl) (by rfl)) ?_)
    first | (refine RL.skipA ?_) | (refine RL.wantA ?_; (first | (refine RL.qa (oBin rfl rfl ev_a ev_a (by rfl)) ?_) | (refine RL.qa (oStr rfl rfl ev_a ev_a (by rfl)) ?_)))
    first | (refine RL.qa (oPickT rfl rfl ev_a ev_a) ?_) | (refine RL.qa (oPickF rfl rfl ev_a ev_a) ?_)
    refine RL.qa (oAssign rfl rfl ev_a) ?_
    refine RL.done ?_
    refine hK _ ?_
    clear hK K
    exact lwp_ret ⟨.inr rfl, end_of rfl ⟨rfl, rfl, trivial⟩ (retO1 rfl (by ((repeat (apply Lk.there; focus rfl)); exact Lk.here)) (.eq rfl))⟩
theorem out_nil : Ctr Try.prog 20 [.nilp] (.bool false) := by
  refine ctr_go 19 [(0, .nilp)] Try.func20 rfl rfl rfl (all_cons rfl all_nil) ?_
  (repeat refine lwp_seq_k fun K hK => ?_)
  refine lw_region ?_
  refine RL.qa (oAssign rfl rfl ev_a) ?_
  refine RL.done ?_
  refine hK _ ?_
  clear hK K
  (repeat refine lwp_seq_k fun K hK => ?_)
  refine lw_region ?_
  refine RL.qa (oMove rfl rfl ev_a) ?_
  refine RL.qa (oEqNil (neg := true) rfl rfl ev_a rfl (by rfl) rfl (by rfl)) ?_
  refine RL.qa (oMove rfl rfl ev_a) ?_
  first | (refine RL.skipA ?_) | (refine RL.wantA ?_; refine RL.qa (oMove rfl rfl ev_a) ?_)
  first | (refine RL.skipA ?_) | (refine RL.wantA ?_; refine RL.qa (oNilCheck rfl rfl ev_a (by rfl) (by rfl)) ?_)
  first | (refine RL.skipA ?_) | (refine RL.wantA ?_; refine RL.qa (oFieldAddr rfl rfl ev_a (by decide) (by rfl)) ?_)
  first | (refine RL.skipA ?_) | (refine RL.wantA ?_; refine RL.qa (oLoad rfl rfl ev_a (by rfl) (by rfl)) ?_)
  first | (refine RL.skipA ?_) | (refine RL.wantA ?_; refine RL.qa (oNot rfl rfl ev_a) ?_)
  first | (refine RL.qa (oPickT rfl rfl ev_a ev_a) ?_) | (refine RL.qa (oPickF rfl rfl ev_a ev_a) ?_)
  refine RL.qa (oMove rfl rfl ev_a) ?_
  first | (refine RL.skipA ?_) | (refine RL.wantA ?_; refine RL.qa (oMove rfl rfl ev_a) ?_)
  first | (refine RL.skipA ?_) | (refine RL.wantA ?_; refine RL.qa (oNilCheck rfl rfl ev_a (by rfl) (by rfl)) ?_)
  first | (refine RL.skipA ?_) | (refine RL.wantA ?_; refine RL.qa (oFieldAddr rfl rfl ev_a (by decide) (by rfl)) ?_)
  first | (refine RL.skipA ?_) | (refine RL.wantA ?_; refine RL.qa (oLoad rfl rfl ev_a (by rfl) (by rfl)) ?_)
  first | (refine RL.skipA ?_) | (refine RL.wantA ?_; (first | (refine RL.qa (oBin rfl rfl ev_a ev_a (by rfl)) ?_) | (refine RL.qa (oStr rfl rfl ev_a ev_a (by rfl)) ?_)))
  first | (refine RL.qa (oPickT rfl rfl ev_a ev_a) ?_) | (refine RL.qa (oPickF rfl rfl ev_a ev_a) ?_)
  refine RL.qa (oAssign rfl rfl ev_a) ?_
  refine RL.done ?_
  refine hK _ ?_
  clear hK K
  exact lwp_ret ⟨.inr rfl, ret1c rfl (by ((repeat (apply Lk.there; focus rfl)); exact Lk.here))⟩
theorem look_ctr (s : Slb) (n : Int) (h63 : s.l.length ≤ 4096) : SlabC 39 s [.int .i64 n] (.int .i64 (s.lookE n)) s 0 := by
  refine ctrO_go 23 [(0, .op 0 0 0), (1, .int .i64 n)] [(0, slabS 1 s), (1, slabL s)] Try.func39 rfl rfl rfl (all_cons rfl (all_cons rfl all_nil)) (all_cons rfl (all_cons rfl all_nil)) ?_
  (repeat refine lwp_seq_k fun K hK => ?_)
  refine lw_region ?_
  refine RL.qa (oAssign rfl rfl ev_a) ?_
  refine RL.done ?_
  refine hK _ ?_
  clear hK K
  refine lwp_seq_k fun K hK => lwp_block ?_
  (repeat refine lwp_seq_k fun K hK => ?_)
  refine lw_region ?_
  refine RL.qa (oMove rfl rfl ev_a) ?_
  refine RL.qa (oEqNil (neg := false) rfl rfl ev_a rfl (by rfl) rfl (by rfl)) ?_
  refine RL.qa (oAssign rfl rfl ev_a) ?_
  refine RL.done ?_
  refine hK _ ?_
  clear hK K
  (repeat refine lwp_seq_k fun K hK => ?_)
  refine lw_condF (by (first | (apply ev_tmp; ((repeat (apply Lk.there; focus rfl)); exact Lk.here)) | exact ev_cint | exact ev_cbool | exact ev_cnilp | exact ev_cnils | exact ev_func | exact ev_cstr | exact ev_cnilf | exact ev_cnili)) ?_
  (repeat refine lwp_seq_k fun K hK => ?_)
  refine lw_region ?_
  refine RL.qa (oMove rfl rfl ev_a) ?_
  refine RL.wsa (oSlab 0 1 rfl rfl ev_a evs_a (out_ctr s) rfl rfl rfl (by rfl) rfl) ?_
  refine RL.qa (oAssign rfl rfl ev_a) ?_
  refine RL.done ?_
  refine hK _ ?_
  clear hK K
  (repeat refine lwp_seq_k fun K hK => ?_)
  refine lwp_cond (by (first | (apply ev_tmp; ((repeat (apply Lk.there; focus rfl)); exact Lk.here)) | exact ev_cint | exact ev_cbool | exact ev_cnilp | exact ev_cnils | exact ev_func | exact ev_cstr | exact ev_cnilf | exact ev_cnili)) (fun ho => ?_) (fun ho => ?_)
  · (repeat refine lwp_seq_k fun K hK => ?_)
    refine lw_region ?_
    refine RL.qa (oAssign rfl rfl ev_a) ?_
    refine RL.done ?_
    refine hK _ ?_
    clear hK K
    exact lwp_ret ⟨.inr rfl, end_of rfl ⟨rfl, rfl, trivial⟩ (retO1 rfl (by ((repeat (apply Lk.there; focus rfl)); exact Lk.here)) (.eq (by rw [Slb.lookE, if_pos ho])))⟩
  by_cases h0 : n < 0
  · (repeat refine lwp_seq_k fun K hK => ?_)
    refine lw_region ?_
    refine RL.qa (oMove rfl rfl ev_a) ?_
    refine RL.qa (oBin (v := .bool true) rfl rfl ev_a ev_a (by simp [binI, h0])) ?_
    refine RL.qa (oMove rfl rfl ev_a) ?_
    first | (refine RL.skipA ?_) | (refine RL.wantA ?_; refine RL.qa (oMove rfl rfl ev_a) ?_)
    first | (refine RL.skipA ?_) | (refine RL.wantA ?_; refine RL.qa (oMove rfl rfl ev_a) ?_)
    first | (refine RL.skipA ?_) | (refine RL.wantA ?_; refine RL.qa (oNilCheck rfl rfl ev_a (by rfl) (by rfl)) ?_)
    first | (refine RL.skipA ?_) | (refine RL.wantA ?_; refine RL.qa (oFieldAddr rfl rfl ev_a (by decide) (by rfl)) ?_)
    first | (refine RL.skipA ?_) | (refine RL.wantA ?_; refine RL.qa (oLoad rfl rfl ev_a (by rfl) (by rfl)) ?_)
    first | (refine RL.skipA ?_) | (refine RL.wantA ?_; (first | (refine RL.qa (oLen rfl rfl rfl ev_a (by rfl)) ?_) | (refine RL.qa (oLenStr rfl rfl rfl ev_a) ?_) | (refine RL.qa (oLenArr rfl rfl rfl) ?_)))
    first | (refine RL.skipA ?_) | (refine RL.wantA ?_; refine RL.qa (oBin rfl rfl ev_a ev_a (by rfl)) ?_)
    first | (refine RL.qa (oPickT rfl rfl ev_a ev_a) ?_) | (refine RL.qa (oPickF rfl rfl ev_a ev_a) ?_)
    refine RL.qa (oAssign rfl rfl ev_a) ?_
    refine RL.done ?_
    refine hK _ ?_
    clear hK K
    (repeat refine lwp_seq_k fun K hK => ?_)
    refine lw_condT (by (first | (apply ev_tmp; ((repeat (apply Lk.there; focus rfl)); exact Lk.here)) | exact ev_cint | exact ev_cbool | exact ev_cnilp | exact ev_cnils | exact ev_func | exact ev_cstr | exact ev_cnilf | exact ev_cnili)) ?_
    (repeat refine lwp_seq_k fun K hK => ?_)
    refine lw_region ?_
    refine RL.qa (oAssign rfl rfl ev_a) ?_
    refine RL.done ?_
    refine hK _ ?_
    clear hK K
    exact lwp_ret ⟨.inr rfl, end_of rfl ⟨rfl, rfl, trivial⟩ (retO1 rfl (by ((repeat (apply Lk.there; focus rfl)); exact Lk.here)) (.eq (by rw [Slb.lookE, if_neg (by simp [ho]), if_pos (.inl h0)])))⟩
  · (repeat refine lwp_seq_k fun K hK => ?_)
    refine lw_region ?_
    refine RL.qa (oMove rfl rfl ev_a) ?_
    refine RL.qa (oBin (v := .bool false) rfl rfl ev_a ev_a (by simp [binI, h0])) ?_
    refine RL.qa (oMove rfl rfl ev_a) ?_
    first | (refine RL.skipA ?_) | (refine RL.wantA ?_; refine RL.qa (oMove rfl rfl ev_a) ?_)
    first | (refine RL.skipA ?_) | (refine RL.wantA ?_; refine RL.qa (oMove rfl rfl ev_a) ?_)
    first | (refine RL.skipA ?_) | (refine RL.wantA ?_; refine RL.qa (oNilCheck rfl rfl ev_a (by rfl) (by rfl)) ?_)
    first | (refine RL.skipA ?_) | (refine RL.wantA ?_; refine RL.qa (oFieldAddr rfl rfl ev_a (by decide) (by rfl)) ?_)
    first | (refine RL.skipA ?_) | (refine RL.wantA ?_; refine RL.qa (oLoad rfl rfl ev_a (by rfl) (by rfl)) ?_)
    first | (refine RL.skipA ?_) | (refine RL.wantA ?_; (first | (refine RL.qa (oLen rfl rfl rfl ev_a (by rfl)) ?_) | (refine RL.qa (oLenStr rfl rfl rfl ev_a) ?_) | (refine RL.qa (oLenArr rfl rfl rfl) ?_)))
    first | (refine RL.skipA ?_) | (refine RL.wantA ?_; refine RL.qa (oBin rfl rfl ev_a ev_a (by rfl)) ?_)
    first | (refine RL.qa (oPickT rfl rfl ev_a ev_a) ?_) | (refine RL.qa (oPickF rfl rfl ev_a ev_a) ?_)
    refine RL.qa (oAssign rfl rfl ev_a) ?_
    refine RL.done ?_
    refine hK _ ?_
    clear hK K
    (repeat refine lwp_seq_k fun K hK => ?_)
    refine lwp_cond (by (first | (apply ev_tmp; ((repeat (apply Lk.there; focus rfl)); exact Lk.here)) | exact ev_cint | exact ev_cbool | exact ev_cnilp | exact ev_cnils | exact ev_func | exact ev_cstr | exact ev_cnilf | exact ev_cnili)) (fun h1 => ?_) (fun h1 => ?_)
    · (repeat refine lwp_seq_k fun K hK => ?_)
      refine lw_region ?_
      refine RL.qa (oAssign rfl rfl ev_a) ?_
      refine RL.done ?_
      refine hK _ ?_
      clear hK K
      exact lwp_ret ⟨.inr rfl, end_of rfl ⟨rfl, rfl, trivial⟩ (retO1 rfl (by ((repeat (apply Lk.there; focus rfl)); exact Lk.here)) (.eq (by rw [Slb.lookE, if_neg (by simp [ho]), if_pos (.inr (of_decide_eq_true h1))])))⟩
    · refine lwp_skip (hK _ ?_)
      clear hK K
      (repeat refine lwp_seq_k fun K hK => ?_)
      refine lw_region ?_
      refine RL.qa (oAssign rfl rfl ev_a) ?_
      refine RL.done ?_
      refine hK _ ?_
      clear hK K
      exact lwp_ret ⟨.inr rfl, end_of rfl ⟨rfl, rfl, trivial⟩ (retO1 rfl (by ((repeat (apply Lk.there; focus rfl)); exact Lk.here)) (.eq (by rw [Slb.lookE, if_neg (by simp [ho]), if_neg (by simpa [h0] using h1)])))⟩
theorem look_nil (n : Int) : Ctr Try.prog 39 [.nilp, .int .i64 n] (.int .i64 1) := by
  refine ctr_go 23 [(0, .nilp), (1, .int .i64 n)] Try.func39 rfl rfl rfl (all_cons rfl (all_cons rfl all_nil)) ?_
  (repeat refine lwp_seq_k fun K hK => ?_)
  refine lw_region ?_
  refine RL.qa (oAssign rfl rfl ev_a) ?_
  refine RL.done ?_
  refine hK _ ?_
  clear hK K
  refine lwp_seq_k fun K hK => lwp_block ?_
  (repeat refine lwp_seq_k fun K hK => ?_)
  refine lw_region ?_
  refine RL.qa (oMove rfl rfl ev_a) ?_
  refine RL.qa (oEqNil (neg := false) rfl rfl ev_a rfl (by rfl) rfl (by rfl)) ?_
  refine RL.qa (oAssign rfl rfl ev_a) ?_
  refine RL.done ?_
  refine hK _ ?_
  clear hK K
  (repeat refine lwp_seq_k fun K hK => ?_)
  refine lw_condT (by (first | (apply ev_tmp; ((repeat (apply Lk.there; focus rfl)); exact Lk.here)) | exact ev_cint | exact ev_cbool | exact ev_cnilp | exact ev_cnils | exact ev_func | exact ev_cstr | exact ev_cnilf | exact ev_cnili)) ?_
  (repeat refine lwp_seq_k fun K hK => ?_)
  refine lw_region ?_
  refine RL.qa (oAssign rfl rfl ev_a) ?_
  refine RL.done ?_
  refine hK _ ?_
  clear hK K
  exact lwp_ret ⟨.inr rfl, ret1c rfl (by ((repeat (apply Lk.there; focus rfl)); exact Lk.here))⟩
theorem stroke_ctr (s : Slb) : SlabC 40 s [] (.bool (!s.out)) s.struck 0 := by
  refine ctrO_go 24 [(0, .op 0 0 0)] [(0, slabS 1 s), (1, slabL s)] Try.func40 rfl rfl rfl (all_cons rfl all_nil) (all_cons rfl (all_cons rfl all_nil)) ?_
  (repeat refine lwp_seq_k fun K hK => ?_)
  refine lw_region ?_
  refine RL.qa (oAssign rfl rfl ev_a) ?_
  refine RL.done ?_
  refine hK _ ?_
  clear hK K
  (repeat refine lwp_seq_k fun K hK => ?_)
  refine lw_region ?_
  refine RL.qa (oMove rfl rfl ev_a) ?_
  refine RL.wsa (oSlab 0 1 rfl rfl ev_a evs_a (out_ctr s) rfl rfl rfl (by rfl) rfl) ?_
  refine RL.done ?_
  refine hK _ ?_
  clear hK K
  (repeat refine lwp_seq_k fun K hK => ?_)
  refine lwp_cond (by (first | (apply ev_tmp; ((repeat (apply Lk.there; focus rfl)); exact Lk.here)) | exact ev_cint | exact ev_cbool | exact ev_cnilp | exact ev_cnils | exact ev_func | exact ev_cstr | exact ev_cnilf | exact ev_cnili)) (fun ho => ?_) (fun ho => ?_)
  · (repeat refine lwp_seq_k fun K hK => ?_)
    refine lw_region ?_
    refine RL.qa (oAssign rfl rfl ev_a) ?_
    refine RL.done ?_
    refine hK _ ?_
    clear hK K
    rw [Slb.struck, if_pos ho, ho]
    exact lwp_ret ⟨.inr rfl, end_of rfl ⟨rfl, rfl, trivial⟩ (retO1 rfl (by ((repeat (apply Lk.there; focus rfl)); exact Lk.here)) (.eq rfl))⟩
  · refine lwp_skip (hK _ ?_)
    clear hK K
    rw [Slb.struck, if_neg (by simp [ho]), ho]
    clear ho
    obtain ⟨l, e, sup, str⟩ := s
    cases e
    · (repeat refine lwp_seq_k fun K hK => ?_)
      refine lw_region ?_
      refine RL.qa (oMove rfl rfl ev_a) ?_
      refine RL.qa (oNilCheck rfl rfl ev_a (by rfl) (by rfl)) ?_
      refine RL.qa (oFieldAddr rfl rfl ev_a (by decide) (by rfl)) ?_
      refine RL.qa (oLoad rfl rfl ev_a (by rfl) (by rfl)) ?_
      refine RL.qa (oBin rfl rfl ev_a ev_a (by rfl)) ?_
      refine RL.qa (oNilCheck rfl rfl ev_a (by rfl) (by rfl)) ?_
      refine RL.qa (oFieldAddr rfl rfl ev_a (by decide) (by rfl)) ?_
      refine RL.w0a (oStore rfl rfl ev_a (by rfl) (by rfl) ev_a (by rfl) (by simp [cellsPV, leaf]) (by rfl) (Nat.zero_le _) (by first | exact Nat.le_of_ble_eq_true rfl | (simp [length_setAt, length_secs, slabS, slabL]; first | done | omega)) (by rfl)) ?_
      refine RL.done ?_
      refine hK _ ?_
      clear hK K
      (repeat refine lwp_seq_k fun K hK => ?_)
      refine lw_region ?_
      refine RL.qa (oMove rfl rfl ev_a) ?_
      refine RL.qa (oNilCheck rfl rfl ev_a (by rfl) (by rfl)) ?_
      refine RL.qa (oFieldAddr rfl rfl ev_a (by decide) (by rfl)) ?_
      refine RL.qa (oLoad rfl rfl ev_a (by rfl) (by rfl)) ?_
      refine RL.qa (oNot rfl rfl ev_a) ?_
      refine RL.done ?_
      refine hK _ ?_
      clear hK K
      (repeat refine lwp_seq_k fun K hK => ?_)
      refine lw_condT (by (first | (apply ev_tmp; ((repeat (apply Lk.there; focus rfl)); exact Lk.here)) | exact ev_cint | exact ev_cbool | exact ev_cnilp | exact ev_cnils | exact ev_func | exact ev_cstr | exact ev_cnilf | exact ev_cnili)) ?_
      (repeat refine lwp_seq_k fun K hK => ?_)
      refine lw_region ?_
      refine RL.qa (oMove rfl rfl ev_a) ?_
      refine RL.qa (oNilCheck rfl rfl ev_a (by rfl) (by rfl)) ?_
      refine RL.qa (oFieldAddr rfl rfl ev_a (by decide) (by rfl)) ?_
      refine RL.qa (oLoad rfl rfl ev_a (by rfl) (by rfl)) ?_
      refine RL.qa (oBin rfl rfl ev_a ev_a (by rfl)) ?_
      refine RL.qa (oNilCheck rfl rfl ev_a (by rfl) (by rfl)) ?_
      refine RL.qa (oFieldAddr rfl rfl ev_a (by decide) (by rfl)) ?_
      refine RL.w0a (oStore rfl rfl ev_a (by rfl) (by rfl) ev_a (by rfl) (by simp [cellsPV, leaf]) (by rfl) (Nat.zero_le _) (by first | exact Nat.le_of_ble_eq_true rfl | (simp [length_setAt, length_secs, slabS, slabL]; first | done | omega)) (by rfl)) ?_
      refine RL.done ?_
      refine hK _ ?_
      clear hK K
      (repeat refine lwp_seq_k fun K hK => ?_)
      refine lw_region ?_
      refine RL.qa (oAssign rfl rfl ev_a) ?_
      refine RL.done ?_
      refine hK _ ?_
      clear hK K
      exact lwp_ret ⟨.inr rfl, end_of rfl ⟨rfl, rfl, trivial⟩ (retO1 rfl (by ((repeat (apply Lk.there; focus rfl)); exact Lk.here)) (.eq rfl))⟩
    · (repeat refine lwp_seq_k fun K hK => ?_)
      refine lw_region ?_
      refine RL.qa (oMove rfl rfl ev_a) ?_
      refine RL.qa (oNilCheck rfl rfl ev_a (by rfl) (by rfl)) ?_
      refine RL.qa (oFieldAddr rfl rfl ev_a (by decide) (by rfl)) ?_
      refine RL.qa (oLoad rfl rfl ev_a (by rfl) (by rfl)) ?_
      refine RL.qa (oBin rfl rfl ev_a ev_a (by rfl)) ?_
      refine RL.qa (oNilCheck rfl rfl ev_a (by rfl) (by rfl)) ?_
      refine RL.qa (oFieldAddr rfl rfl ev_a (by decide) (by rfl)) ?_
      refine RL.w0a (oStore rfl rfl ev_a (by rfl) (by rfl) ev_a (by rfl) (by simp [cellsPV, leaf]) (by rfl) (Nat.zero_le _) (by first | exact Nat.le_of_ble_eq_true rfl | (simp [length_setAt, length_secs, slabS, slabL]; first | done | omega)) (by rfl)) ?_
      refine RL.done ?_
      refine hK _ ?_
      clear hK K
      (repeat refine lwp_seq_k fun K hK => ?_)
      refine lw_region ?_
      refine RL.qa (oMove rfl rfl ev_a) ?_
      refine RL.qa (oNilCheck rfl rfl ev_a (by rfl) (by rfl)) ?_
      refine RL.qa (oFieldAddr rfl rfl ev_a (by decide) (by rfl)) ?_
      refine RL.qa (oLoad rfl rfl ev_a (by rfl) (by rfl)) ?_
      refine RL.qa (oNot rfl rfl ev_a) ?_
      refine RL.done ?_
      refine hK _ ?_
      clear hK K
      (repeat refine lwp_seq_k fun K hK => ?_)
      refine lw_condF (by (first | (apply ev_tmp; ((repeat (apply Lk.there; focus rfl)); exact Lk.here)) | exact ev_cint | exact ev_cbool | exact ev_cnilp | exact ev_cnils | exact ev_func | exact ev_cstr | exact ev_cnilf | exact ev_cnili)) ?_
      refine lwp_skip (hK _ ?_)
      clear hK K
      (repeat refine lwp_seq_k fun K hK => ?_)
      refine lw_region ?_
      refine RL.qa (oAssign rfl rfl ev_a) ?_
      refine RL.done ?_
      refine hK _ ?_
      clear hK K
      exact lwp_ret ⟨.inr rfl, end_of rfl ⟨rfl, rfl, trivial⟩ (retO1 rfl (by ((repeat (apply Lk.there; focus rfl)); exact Lk.here)) (.eq rfl))⟩
end Go.Proofs.Ythnjhhohfhnhgaa
