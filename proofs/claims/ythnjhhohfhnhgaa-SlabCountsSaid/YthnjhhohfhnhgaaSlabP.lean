/- Sectors all of one byte. -/
import Derived.Test.YthnjhhohfhnhgaaSlabF
import Derived.Test.YthnjhhohfhnhgaaPvF
namespace Go.Proofs.Ythnjhhohfhnhgaa
open Go Go.RowKit
set_option maxRecDepth 10000
def plain (x : UInt8) : List UInt8 := List.replicate 64 x
theorem plain_set (x : UInt8) (j : Nat) (h : j < 64) : setAt (pb (List.replicate j x ++ List.replicate (64 - j) 0)) j [.int .u8 (x.toNat : Int)] = pb (List.replicate (j + 1) x ++ List.replicate (64 - (j + 1)) 0) := by
  show (pb _).set j _ = _
  rw [show 64 - j = (64 - (j + 1)) + 1 by omega, List.replicate_succ, List.replicate_succ']
  simp [pb, List.set_append]
theorem plain_own (x : UInt8) : CtrO Try.prog 13 [] [.int .u8 (x.toNat : Int)] (.os 0 0 0 64) [some ⟨0, 1, 0, pb (plain x)⟩] := by
  refine ctrO_go 17 [(0, .int .u8 (x.toNat : Int))] [] Try.func13 rfl rfl rfl (all_cons rfl all_nil) all_nil ?_
  (repeat refine lwp_seq_k fun K hK => ?_)
  refine lw_region ?_
  refine RL.qa (oAssign rfl rfl ev_a) ?_
  refine RL.done ?_
  refine hK _ ?_
  clear hK K
  (repeat refine lwp_seq_k fun K hK => ?_)
  refine lw_region ?_
  refine RL.wa (oMakeB (l := 64) rfl rfl ev_a ev_a (by omega)) ?_
  refine RL.qa (oAssign rfl rfl ev_a) ?_
  refine RL.done ?_
  refine hK _ ?_
  clear hK K
  (repeat refine lwp_seq_k fun K hK => ?_)
  refine lw_region ?_
  refine RL.qa (oMove rfl rfl ev_a) ?_
  first | (refine RL.qa (oLen rfl rfl rfl ev_a (by rfl)) ?_) | (refine RL.qa (oLenStr rfl rfl rfl ev_a) ?_) | (refine RL.qa (oLenArr rfl rfl rfl) ?_)
  refine RL.qa (oMove rfl rfl ev_a) ?_
  refine RL.done ?_
  refine hK _ ?_
  clear hK K
  (repeat refine lwp_seq_k fun K hK => ?_)
  refine lwp_block ?_
  refine lwp_loopR (fun q st => ∃ j : Nat, q = 64 - j ∧ j ≤ 64 ∧ st = St' [(0, .int .u8 (x.toNat : Int)), (3, .os 0 0 0 64), (7, .int .i64 (64 : Nat)), (8, .int .i64 j)] [(0, ⟨0, 1, 0, pb (List.replicate j x ++ List.replicate (64 - j) 0)⟩)] 1) 64 _
    (lessR_of [0] [] rfl (by decide) (fun m hm => by first | omega | simp at hm) (by simp) (all_cons ⟨_, by ((repeat (apply Lk.there; focus rfl)); exact Lk.here), by exact .eq rfl⟩ (all_cons ⟨_, by ((repeat (apply Lk.there; focus rfl)); exact Lk.here), by exact .osI rfl⟩ (all_cons ⟨_, by ((repeat (apply Lk.there; focus rfl)); exact Lk.here), by exact .eq rfl⟩ (all_cons ⟨_, by ((repeat (apply Lk.there; focus rfl)); exact Lk.here), by exact .eq rfl⟩ all_nil))))
      (all_cons ⟨_, _, by rfl, by rfl, by exact ⟨rfl, rfl, rfl, .snap ((pb_cl _).out _ _)⟩⟩ all_nil)) ⟨0, rfl, Nat.zero_le _, rfl⟩ ?_
  rintro q _ ⟨j, rfl, hj, rfl⟩
  by_cases hlt : j < 64
  · (repeat refine lwp_seq_k fun K hK => ?_)
    refine lw_region ?_
    refine RL.qa (oBin (v := .bool true) rfl rfl ev_a ev_a (by simp [binI]; omega)) ?_
    refine RL.done ?_
    refine hK _ ?_
    clear hK K
    (repeat refine lwp_seq_k fun K hK => ?_)
    refine lw_condT (by (first | (apply ev_tmp; ((repeat (apply Lk.there; focus rfl)); exact Lk.here)) | exact ev_cint | exact ev_cbool | exact ev_cnilp | exact ev_cnils | exact ev_func | exact ev_cstr | exact ev_cnilf | exact ev_cnili)) ?_
    refine lwp_skip (hK _ ?_)
    clear hK K
    (repeat refine lwp_seq_k fun K hK => ?_)
    refine lwp_block ?_
    (repeat refine lwp_seq_k fun K hK => ?_)
    refine lw_region ?_
    refine RL.qa (oMove rfl rfl ev_a) ?_
    refine RL.qa (oAssign rfl rfl ev_a) ?_
    refine RL.done ?_
    refine hK _ ?_
    clear hK K
    (repeat refine lwp_seq_k fun K hK => ?_)
    refine lw_region ?_
    refine RL.qa (oMove rfl rfl ev_a) ?_
    refine RL.qa (oMove rfl rfl ev_a) ?_
    refine RL.qa (oMove rfl rfl ev_a) ?_
    refine RL.qa (oIndexOs rfl rfl ev_a ev_a (by rfl) (by rfl) (by rfl) (by omega) (by omega) (by decide)) ?_
    refine RL.w0a (oStore rfl rfl ev_a (by rfl) (by rfl) ev_a (by rfl) (by simp [cellsPV, leaf]) (by rfl) (Nat.zero_le _) (by simp [length_pb]; omega) (cs := pb (List.replicate (j + 1) x ++ List.replicate (64 - (j + 1)) 0)) (by rw [← plain_set x j hlt]; simp [cellsPV])) ?_
    refine RL.done ?_
    refine hK _ ?_
    clear hK K
    (repeat refine lwp_seq_k fun K hK => ?_)
    refine lw_region ?_
    first | (refine RL.qa (oArith rfl rfl ev_a ev_a (by rfl) (by omega) (by omega)) ?_) | (refine RL.qa (oBin rfl rfl ev_a ev_a (by rfl)) ?_)
    refine RL.qa (oMove rfl rfl ev_a) ?_
    refine RL.done ?_
    exact ⟨_, _, (by omega : 64 - (j + 1) < 64 - j), lessR_of [0] [] rfl (by decide) (fun m hm => by first | omega | simp at hm) (by simp) (all_cons ⟨_, by ((repeat (apply Lk.there; focus rfl)); exact Lk.here), by exact .eq rfl⟩ (all_cons ⟨_, by ((repeat (apply Lk.there; focus rfl)); exact Lk.here), by exact .osI rfl⟩ (all_cons ⟨_, by ((repeat (apply Lk.there; focus rfl)); exact Lk.here), by exact .eq rfl⟩ (all_cons ⟨_, by ((repeat (apply Lk.there; focus rfl)); exact Lk.here), by exact .eq rfl⟩ all_nil))))
      (all_cons ⟨_, _, by rfl, by rfl, by exact ⟨rfl, rfl, rfl, .snap ((pb_cl _).out _ _)⟩⟩ all_nil), j + 1, rfl, by omega, rfl⟩
  · obtain rfl : j = 64 := by omega
    (repeat refine lwp_seq_k fun K hK => ?_)
    refine lw_region ?_
    refine RL.qa (oBin (v := .bool false) rfl rfl ev_a ev_a (by simp [binI])) ?_
    refine RL.done ?_
    refine hK _ ?_
    clear hK K
    (repeat refine lwp_seq_k fun K hK => ?_)
    refine lw_condF (by (first | (apply ev_tmp; ((repeat (apply Lk.there; focus rfl)); exact Lk.here)) | exact ev_cint | exact ev_cbool | exact ev_cnilp | exact ev_cnils | exact ev_func | exact ev_cstr | exact ev_cnilf | exact ev_cnili)) ?_
    refine lwp_exit ?_
    simp only [thenL, inBlk, if_true]
    clear hK K
    refine hK _ ?_
    clear hK K
    (repeat refine lwp_seq_k fun K hK => ?_)
    refine lw_region ?_
    refine RL.qa (oMove rfl rfl ev_a) ?_
    refine RL.qa (oAssign rfl rfl ev_a) ?_
    refine RL.done ?_
    refine hK _ ?_
    clear hK K
    exact lwp_ret ⟨.inr rfl, end_of rfl ⟨rfl, trivial⟩ (retO1 rfl (by ((repeat (apply Lk.there; focus rfl)); exact Lk.here)) (.os ⟨rfl, _, rfl⟩))⟩
theorem plain_F (x : UInt8) : CtrF Try.prog 13 [.int .u8 (x.toNat : Int)] (.ro false 64 (pb (plain x))) := ctrF_of_ctrO (plain_own x) rfl (by simp [plain])
theorem plain_ctr (x : UInt8) : Ctr Try.prog 13 [.int .u8 (x.toNat : Int)] (.ro false 64 (pb (plain x))) := (plain_F x).ctr
end Go.Proofs.Ythnjhhohfhnhgaa
