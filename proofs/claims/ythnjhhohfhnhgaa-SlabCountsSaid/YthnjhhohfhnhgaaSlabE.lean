/- The slab's Inked. -/
import Derived.Test.YthnjhhohfhnhgaaSlabD
namespace Go.Proofs.Ythnjhhohfhnhgaa
open Go Go.RowKit
set_option maxRecDepth 10000

def Slb.inkL (s : Slb) (j : Nat) : List Nat := (List.range j).filter fun i => (s.l.getD i secD).ink.isSome
def intsPV (l : List Nat) : List PV := l.map fun (i : Nat) => .int .i64 (i : Int)
theorem inkL_succ (s : Slb) (j : Nat) : s.inkL (j + 1) = s.inkL j ++ if (s.l.getD j secD).ink.isSome then [j] else [] := by
  unfold Slb.inkL
  rw [List.range_succ, List.filter_append]
  congr 1
  simp only [List.filter_cons, List.filter_nil]
theorem inkL_le (s : Slb) (j : Nat) : (s.inkL j).length ≤ j := by
  have := List.length_filter_le (fun i => (s.l.getD i secD).ink.isSome) (List.range j)
  simpa [Slb.inkL] using this
instance ints_cl (l : List Nat) : ClL (intsPV l) := inferInstanceAs (ClL (l.map fun (i : Nat) => .int .i64 (i : Int)))
theorem leaf_ints (l : List Nat) : ∀ y ∈ intsPV l, leaf y = true := by
  intro y hy
  obtain ⟨b, _, rfl⟩ := List.mem_map.1 hy
  rfl
theorem length_ints (l : List Nat) : (intsPV l).length = l.length := by simp [intsPV]
theorem inked_ctr (s : Slb) (hw : s.wf) : SlabC 21 s [] (.ro false (s.inkL s.l.length).length (intsPV (s.inkL s.l.length))) s 1 := by
  refine ctrO_go 27 [(0, .op 0 0 0)] [(0, slabS 1 s), (1, slabL s)] Try.func21 rfl rfl rfl (all_cons rfl all_nil) (all_cons rfl (all_cons rfl all_nil)) ?_
  have h63 := hw.1
  (repeat refine lwp_seq_k fun K hK => ?_)
  refine lw_region ?_
  refine RL.qa (oAssign rfl rfl ev_a) ?_
  refine RL.done ?_
  refine hK _ ?_
  clear hK K
  (repeat refine lwp_seq_k fun K hK => ?_)
  refine lw_region ?_
  refine RL.qa (oAssign rfl rfl ev_a) ?_
  refine RL.done ?_
  refine hK _ ?_
  clear hK K
  (repeat refine lwp_seq_k fun K hK => ?_)
  refine lw_region ?_
  refine RL.qa (oMove rfl rfl ev_a) ?_
  refine RL.qa (oEqNil (neg := false) rfl rfl ev_a rfl (by rfl) rfl (by rfl)) ?_
  refine RL.done ?_
  refine hK _ ?_
  clear hK K
  (repeat refine lwp_seq_k fun K hK => ?_)
  refine lw_condF (by (first | (apply ev_tmp; ((repeat (apply Lk.there; focus rfl)); exact Lk.here)) | exact ev_cint | exact ev_cbool | exact ev_cnilp | exact ev_cnils | exact ev_func | exact ev_cstr | exact ev_cnilf | exact ev_cnili)) ?_
  refine lwp_skip (hK _ ?_)
  clear hK K
  (repeat refine lwp_seq_k fun K hK => ?_)
  refine lw_region ?_
  refine RL.qa (oMove rfl rfl ev_a) ?_
  refine RL.qa (oNilCheck rfl rfl ev_a (by rfl) (by rfl)) ?_
  refine RL.qa (oFieldAddr rfl rfl ev_a (by decide) (by rfl)) ?_
  refine RL.qa (oLoad rfl rfl ev_a (by rfl) (by rfl)) ?_
  first | (refine RL.qa (oLen rfl rfl rfl ev_a (by rfl)) ?_) | (refine RL.qa (oLenStr rfl rfl rfl ev_a) ?_) | (refine RL.qa (oLenArr rfl rfl rfl) ?_)
  refine RL.qa (oMove rfl rfl ev_a) ?_
  refine RL.done ?_
  refine hK _ ?_
  clear hK K
  (repeat refine lwp_seq_k fun K hK => ?_)
  refine lwp_block ?_
  refine lwp_loopR (fun q st => ∃ (j m : Nat) (xs : List PV), q = s.l.length - j ∧ j ≤ s.l.length ∧ xs = intsPV (s.inkL j) ∧ m = (s.inkL j).length ∧ st = St' [(0, .op 0 0 0), (3, accV 2 m), (11, .os 1 0 0 s.l.length), (12, .int .i64 s.l.length), (13, .int .i64 j)] (accH 2 1 m xs [(0, slabS 1 s), (1, slabL s)]) (accN 2 m)) s.l.length _
    (lessR_of [0, 1] [] rfl (by decide) (fun m hm => by match m, hm with | 0, _ => rfl | 1, _ => rfl) (by simp) (all_cons ⟨_, by ((repeat (apply Lk.there; focus rfl)); exact Lk.here), by exact .opI rfl⟩ (all_cons ⟨_, by ((repeat (apply Lk.there; focus rfl)); exact Lk.here), by exact .eq rfl⟩ (all_cons ⟨_, by ((repeat (apply Lk.there; focus rfl)); exact Lk.here), by exact .osI rfl⟩ (all_cons ⟨_, by ((repeat (apply Lk.there; focus rfl)); exact Lk.here), by exact .eq rfl⟩ (all_cons ⟨_, by ((repeat (apply Lk.there; focus rfl)); exact Lk.here), by exact .eq rfl⟩ all_nil)))))
      (all_cons ⟨_, _, by rfl, by rfl, by exact slabS_tr rfl⟩ (all_cons ⟨_, _, by rfl, by rfl, by exact slabL_tr⟩ all_nil))) ⟨0, 0, [], rfl, Nat.zero_le _, rfl, rfl, rfl⟩ ?_
  rintro q _ ⟨j, m, xs, rfl, hj, rfl, hm, rfl⟩
  by_cases hlt : j < s.l.length
  · have hi : j < s.l.length := hlt
    have hx := inkL_succ s j
    rw [List.getD_eq_getElem?_getD, List.getElem?_eq_getElem hi, Option.getD_some] at hx
    have hle := inkL_le s j
    cases m with
    | zero =>
      (repeat refine lwp_seq_k fun K hK => ?_)
      refine lw_region ?_
      refine RL.qa (oBin (v := .bool true) rfl rfl ev_a ev_a (by simp [binI]; omega)) ?_
      refine RL.done ?_
      refine hK _ ?_
      clear hK K
      (repeat refine lwp_seq_k fun K hK => ?_)
      refine lw_condT (by (first | (apply ev_tmp; ((repeat (apply Lk.there; focus rfl)); exact Lk.here)) | exact ev_cint | exact ev_cbool | exact ev_cnilp | exact ev_cnils | exact ev_func | exact ev_cstr | exact ev_cnilf | exact ev_cnili)) ?_
      refine lwp_skip (hK _ ?_)
      clear hK K
      (repeat refine lwp_seq_k fun K hK => ?_)
      refine lwp_block ?_
      (repeat refine lwp_seq_k fun K hK => ?_)
      refine lw_region ?_
      refine RL.qa (oMove rfl rfl ev_a) ?_
      refine RL.qa (oIndexOs rfl rfl ev_a ev_a (by rfl) (by rfl) (by rfl) (by omega) (by omega) (by decide)) ?_
      refine RL.qa (oLoadA rfl rfl ev_a (at_slab (s := s) (i := j) (by rfl) hi (by omega)) (by rfl) (by simp) (by rfl)) ?_
      refine RL.wa (oAlloc 1 (Nat.succ_pos 0) rfl rfl (by rfl)) ?_
      refine RL.qa (oAssign rfl rfl ev_a) ?_
      refine RL.w0a (oStore rfl rfl ev_a (by rfl) (by rfl) ev_a (by rfl) (by simp [cellsPV, leaf_ofO]) (by rfl) (Nat.zero_le _) (by exact Nat.le_of_ble_eq_true rfl) (by rfl)) ?_
      refine RL.done ?_
      refine hK _ ?_
      clear hK K
      have hmm := hw.2 _ (List.getElem_mem hi)
      generalize s.l[j] = x at *
      obtain ⟨bu, ik⟩ := x
      cases ik with
      | some b =>
        have hb := hmm.2 b rfl
        (repeat refine lwp_seq_k fun K hK => ?_)
        refine lw_region ?_
        refine RL.qa (oFieldAddr rfl rfl ev_a (by decide) (by rfl)) ?_
        refine RL.qa (oLoad rfl rfl ev_a (by rfl) (by rfl)) ?_
        refine RL.qa (oEqNil (neg := true) rfl rfl ev_a rfl (nil_ro (by omega)) rfl (by rfl)) ?_
        refine RL.done ?_
        refine hK _ ?_
        clear hK K
        (repeat refine lwp_seq_k fun K hK => ?_)
        refine lw_condT (by (first | (apply ev_tmp; ((repeat (apply Lk.there; focus rfl)); exact Lk.here)) | exact ev_cint | exact ev_cbool | exact ev_cnilp | exact ev_cnils | exact ev_func | exact ev_cstr | exact ev_cnilf | exact ev_cnili)) ?_
        have h0 : s.inkL j = [] := List.eq_nil_of_length_eq_zero hm.symm
        have hz : [] ++ [PV.int .i64 (j : Int)] = intsPV (s.inkL (j + 1)) := by rw [hx, h0]; rfl
        (repeat refine lwp_seq_k fun K hK => ?_)
        refine lw_region ?_
        refine RL.qa (oMove rfl rfl ev_a) ?_
        refine RL.qa (oMove rfl rfl ev_a) ?_
        refine RL.qa (oLit rfl rfl rfl (by decide) [_] evp_a (by rfl) (by simp [leaf])) ?_
        refine RL.wa (oAppendNew rfl rfl rfl (by rfl) (by decide) ev_a (by rfl) (by rfl) ev_a (by rfl) (by rfl) (by rfl) (by simp [leaf]) (by omega) (by omega) (by omega) (q := 1) (by rfl) (zs := intsPV (s.inkL (j + 1))) hz) ?_
        refine RL.qa (oAssign rfl rfl ev_a) ?_
        refine RL.done ?_
        refine hK _ ?_
        clear hK K
        (repeat refine lwp_seq_k fun K hK => ?_)
        refine lw_region ?_
        first | (refine RL.qa (oArith rfl rfl ev_a ev_a (by rfl) (by omega) (by omega)) ?_) | (refine RL.qa (oBin rfl rfl ev_a ev_a (by rfl)) ?_)
        refine RL.qa (oMove rfl rfl ev_a) ?_
        refine RL.done ?_
        exact ⟨_, _, (by omega : s.l.length - (j + 1) < s.l.length - j), lessR_of [0, 1, 3] [] rfl (by decide) (fun m hm => by match m, hm with | 0, _ => rfl | 1, _ => rfl) (by simp) (all_cons ⟨_, by ((repeat (apply Lk.there; focus rfl)); exact Lk.here), by exact .opI rfl⟩ (all_cons ⟨_, by ((repeat (apply Lk.there; focus rfl)); exact Lk.here), by exact .osI rfl⟩ (all_cons ⟨_, by ((repeat (apply Lk.there; focus rfl)); exact Lk.here), by exact .osI rfl⟩ (all_cons ⟨_, by ((repeat (apply Lk.there; focus rfl)); exact Lk.here), by exact .eq rfl⟩ (all_cons ⟨_, by ((repeat (apply Lk.there; focus rfl)); exact Lk.here), by exact .eq rfl⟩ all_nil))))) (all_cons ⟨_, _, by rfl, by rfl, by exact ⟨rfl, rfl, rfl, .snap ((ints_cl _).out _ _)⟩⟩ (all_cons ⟨_, _, by rfl, by rfl, by exact slabS_tr rfl⟩ (all_cons ⟨_, _, by rfl, by rfl, by exact slabL_tr⟩ all_nil))), j + 1, 1, _, rfl, by omega, rfl, by rw [hx, h0]; rfl, rfl⟩
      | none =>
        (repeat refine lwp_seq_k fun K hK => ?_)
        refine lw_region ?_
        refine RL.qa (oFieldAddr rfl rfl ev_a (by decide) (by rfl)) ?_
        refine RL.qa (oLoad rfl rfl ev_a (by rfl) (by rfl)) ?_
        refine RL.qa (oEqNil (neg := true) rfl rfl ev_a rfl (by rfl) rfl (by rfl)) ?_
        refine RL.done ?_
        refine hK _ ?_
        clear hK K
        (repeat refine lwp_seq_k fun K hK => ?_)
        refine lw_condF (by (first | (apply ev_tmp; ((repeat (apply Lk.there; focus rfl)); exact Lk.here)) | exact ev_cint | exact ev_cbool | exact ev_cnilp | exact ev_cnils | exact ev_func | exact ev_cstr | exact ev_cnilf | exact ev_cnili)) ?_
        refine lwp_skip (hK _ ?_)
        clear hK K
        (repeat refine lwp_seq_k fun K hK => ?_)
        refine lw_region ?_
        first | (refine RL.qa (oArith rfl rfl ev_a ev_a (by rfl) (by omega) (by omega)) ?_) | (refine RL.qa (oBin rfl rfl ev_a ev_a (by rfl)) ?_)
        refine RL.qa (oMove rfl rfl ev_a) ?_
        refine RL.done ?_
        have hz : intsPV (s.inkL j) = intsPV (s.inkL (j + 1)) := by rw [hx]; simp
        exact ⟨_, _, (by omega : s.l.length - (j + 1) < s.l.length - j), lessR_of [0, 1] [] rfl (by decide) (fun m hm => by match m, hm with | 0, _ => rfl | 1, _ => rfl) (by simp) (all_cons ⟨_, by ((repeat (apply Lk.there; focus rfl)); exact Lk.here), by exact .opI rfl⟩ (all_cons ⟨_, by ((repeat (apply Lk.there; focus rfl)); exact Lk.here), by exact .eq (x := .nils) rfl⟩ (all_cons ⟨_, by ((repeat (apply Lk.there; focus rfl)); exact Lk.here), by exact .osI rfl⟩ (all_cons ⟨_, by ((repeat (apply Lk.there; focus rfl)); exact Lk.here), by exact .eq rfl⟩ (all_cons ⟨_, by ((repeat (apply Lk.there; focus rfl)); exact Lk.here), by exact .eq rfl⟩ all_nil))))) (all_cons ⟨_, _, by rfl, by rfl, by exact slabS_tr rfl⟩ (all_cons ⟨_, _, by rfl, by rfl, by exact slabL_tr⟩ all_nil)), j + 1, 0, _, rfl, by omega, hz, by rw [hx]; simpa using hm, rfl⟩
    | succ m =>
      (repeat refine lwp_seq_k fun K hK => ?_)
      refine lw_region ?_
      refine RL.qa (oBin (v := .bool true) rfl rfl ev_a ev_a (by simp [binI]; omega)) ?_
      refine RL.done ?_
      refine hK _ ?_
      clear hK K
      (repeat refine lwp_seq_k fun K hK => ?_)
      refine lw_condT (by (first | (apply ev_tmp; ((repeat (apply Lk.there; focus rfl)); exact Lk.here)) | exact ev_cint | exact ev_cbool | exact ev_cnilp | exact ev_cnils | exact ev_func | exact ev_cstr | exact ev_cnilf | exact ev_cnili)) ?_
      refine lwp_skip (hK _ ?_)
      clear hK K
      (repeat refine lwp_seq_k fun K hK => ?_)
      refine lwp_block ?_
      (repeat refine lwp_seq_k fun K hK => ?_)
      refine lw_region ?_
      refine RL.qa (oMove rfl rfl ev_a) ?_
      refine RL.qa (oIndexOs rfl rfl ev_a ev_a (by rfl) (by rfl) (by rfl) (by omega) (by omega) (by decide)) ?_
      refine RL.qa (oLoadA rfl rfl ev_a (at_slab (s := s) (i := j) (by rfl) hi (by omega)) (by rfl) (by simp) (by rfl)) ?_
      refine RL.wa (oAlloc 1 (Nat.succ_pos 0) rfl rfl (by rfl)) ?_
      refine RL.qa (oAssign rfl rfl ev_a) ?_
      refine RL.w0a (oStore rfl rfl ev_a (by rfl) (by rfl) ev_a (by rfl) (by simp [cellsPV, leaf_ofO]) (by rfl) (Nat.zero_le _) (by exact Nat.le_of_ble_eq_true rfl) (by rfl)) ?_
      refine RL.done ?_
      refine hK _ ?_
      clear hK K
      have hmm := hw.2 _ (List.getElem_mem hi)
      generalize s.l[j] = x at *
      obtain ⟨bu, ik⟩ := x
      cases ik with
      | some b =>
        have hb := hmm.2 b rfl
        (repeat refine lwp_seq_k fun K hK => ?_)
        refine lw_region ?_
        refine RL.qa (oFieldAddr rfl rfl ev_a (by decide) (by rfl)) ?_
        refine RL.qa (oLoad rfl rfl ev_a (by rfl) (by rfl)) ?_
        refine RL.qa (oEqNil (neg := true) rfl rfl ev_a rfl (nil_ro (by omega)) rfl (by rfl)) ?_
        refine RL.done ?_
        refine hK _ ?_
        clear hK K
        (repeat refine lwp_seq_k fun K hK => ?_)
        refine lw_condT (by (first | (apply ev_tmp; ((repeat (apply Lk.there; focus rfl)); exact Lk.here)) | exact ev_cint | exact ev_cbool | exact ev_cnilp | exact ev_cnils | exact ev_func | exact ev_cstr | exact ev_cnilf | exact ev_cnili)) ?_
        have hz : intsPV (s.inkL j) ++ [PV.int .i64 (j : Int)] = intsPV (s.inkL (j + 1)) := by rw [hx]; simp [intsPV]
        (repeat refine lwp_seq_k fun K hK => ?_)
        refine lw_region ?_
        refine RL.qa (oMove rfl rfl ev_a) ?_
        refine RL.qa (oMove rfl rfl ev_a) ?_
        refine RL.qa (oLit rfl rfl rfl (by decide) [_] evp_a (by rfl) (by simp [leaf])) ?_
        refine RL.wa (oPush rfl rfl rfl (by rfl) (by decide) ev_a (by rfl) (by rw [length_ints]; omega) (by omega) ev_a (by rfl) (by rfl) (by rfl) (by simp [leaf]) (by omega) (by omega) (q := m + 2) (by rfl) (zs := intsPV (s.inkL (j + 1))) hz) ?_
        refine RL.qa (oAssign rfl rfl ev_a) ?_
        refine RL.done ?_
        refine hK _ ?_
        clear hK K
        (repeat refine lwp_seq_k fun K hK => ?_)
        refine lw_region ?_
        first | (refine RL.qa (oArith rfl rfl ev_a ev_a (by rfl) (by omega) (by omega)) ?_) | (refine RL.qa (oBin rfl rfl ev_a ev_a (by rfl)) ?_)
        refine RL.qa (oMove rfl rfl ev_a) ?_
        refine RL.done ?_
        exact ⟨_, _, (by omega : s.l.length - (j + 1) < s.l.length - j), lessR_of [0, 1, 2] [] rfl (by decide) (fun m hm => by match m, hm with | 0, _ => rfl | 1, _ => rfl) (by simp) (all_cons ⟨_, by ((repeat (apply Lk.there; focus rfl)); exact Lk.here), by exact .opI rfl⟩ (all_cons ⟨_, by ((repeat (apply Lk.there; focus rfl)); exact Lk.here), by exact .osI rfl⟩ (all_cons ⟨_, by ((repeat (apply Lk.there; focus rfl)); exact Lk.here), by exact .osI rfl⟩ (all_cons ⟨_, by ((repeat (apply Lk.there; focus rfl)); exact Lk.here), by exact .eq rfl⟩ (all_cons ⟨_, by ((repeat (apply Lk.there; focus rfl)); exact Lk.here), by exact .eq rfl⟩ all_nil))))) (all_cons ⟨_, _, by rfl, by rfl, by exact ⟨rfl, rfl, rfl, .snap ((ints_cl _).out _ _)⟩⟩ (all_cons ⟨_, _, by rfl, by rfl, by exact slabS_tr rfl⟩ (all_cons ⟨_, _, by rfl, by rfl, by exact slabL_tr⟩ all_nil))), j + 1, m + 2, _, rfl, by omega, rfl, by rw [hx]; simp; omega, rfl⟩
      | none =>
        (repeat refine lwp_seq_k fun K hK => ?_)
        refine lw_region ?_
        refine RL.qa (oFieldAddr rfl rfl ev_a (by decide) (by rfl)) ?_
        refine RL.qa (oLoad rfl rfl ev_a (by rfl) (by rfl)) ?_
        refine RL.qa (oEqNil (neg := true) rfl rfl ev_a rfl (by rfl) rfl (by rfl)) ?_
        refine RL.done ?_
        refine hK _ ?_
        clear hK K
        (repeat refine lwp_seq_k fun K hK => ?_)
        refine lw_condF (by (first | (apply ev_tmp; ((repeat (apply Lk.there; focus rfl)); exact Lk.here)) | exact ev_cint | exact ev_cbool | exact ev_cnilp | exact ev_cnils | exact ev_func | exact ev_cstr | exact ev_cnilf | exact ev_cnili)) ?_
        refine lwp_skip (hK _ ?_)
        clear hK K
        (repeat refine lwp_seq_k fun K hK => ?_)
        refine lw_region ?_
        first | (refine RL.qa (oArith rfl rfl ev_a ev_a (by rfl) (by omega) (by omega)) ?_) | (refine RL.qa (oBin rfl rfl ev_a ev_a (by rfl)) ?_)
        refine RL.qa (oMove rfl rfl ev_a) ?_
        refine RL.done ?_
        have hz : intsPV (s.inkL j) = intsPV (s.inkL (j + 1)) := by rw [hx]; simp
        exact ⟨_, _, (by omega : s.l.length - (j + 1) < s.l.length - j), lessR_of [0, 1, 2] [] rfl (by decide) (fun m hm => by match m, hm with | 0, _ => rfl | 1, _ => rfl) (by simp) (all_cons ⟨_, by ((repeat (apply Lk.there; focus rfl)); exact Lk.here), by exact .opI rfl⟩ (all_cons ⟨_, by ((repeat (apply Lk.there; focus rfl)); exact Lk.here), by exact .osI rfl⟩ (all_cons ⟨_, by ((repeat (apply Lk.there; focus rfl)); exact Lk.here), by exact .osI rfl⟩ (all_cons ⟨_, by ((repeat (apply Lk.there; focus rfl)); exact Lk.here), by exact .eq rfl⟩ (all_cons ⟨_, by ((repeat (apply Lk.there; focus rfl)); exact Lk.here), by exact .eq rfl⟩ all_nil))))) (all_cons ⟨_, _, by rfl, by rfl, by exact ⟨rfl, rfl, rfl, .snap ((ints_cl _).out _ _)⟩⟩ (all_cons ⟨_, _, by rfl, by rfl, by exact slabS_tr rfl⟩ (all_cons ⟨_, _, by rfl, by rfl, by exact slabL_tr⟩ all_nil))), j + 1, m + 1, _, rfl, by omega, hz, by rw [hx]; simpa using hm, rfl⟩
  · obtain rfl : j = s.l.length := by omega
    (repeat refine lwp_seq_k fun K hK => ?_)
    refine lw_region ?_
    refine RL.qa (oBin (v := .bool false) rfl rfl ev_a ev_a (by simp [binI])) ?_
    refine RL.done ?_
    refine hK _ ?_
    clear hK K
    (repeat refine lwp_seq_k fun K hK => ?_)
    refine lw_condF (by (first | (apply ev_tmp; ((repeat (apply Lk.there; focus rfl)); exact Lk.here)) | exact ev_cint | exact ev_cbool | exact ev_cnilp | exact ev_cnils | exact ev_func | exact ev_cstr | exact ev_cnilf | exact ev_cnili)) ?_
    refine lwp_exit ?_
    simp only [thenL, inBlk, if_true]
    clear hK K
    refine hK _ ?_
    clear hK K
    (repeat refine lwp_seq_k fun K hK => ?_)
    refine lw_region ?_
    refine RL.qa (oMove rfl rfl ev_a) ?_
    refine RL.qa (oAssign rfl rfl ev_a) ?_
    refine RL.done ?_
    refine hK _ ?_
    clear hK K
    rw [← hm]
    cases m with
    | zero =>
      have h0 : s.inkL s.l.length = [] := List.eq_nil_of_length_eq_zero hm.symm
      rw [h0]
      exact lwp_ret ⟨.inr rfl, end_of rfl ⟨rfl, rfl, trivial⟩ (retO1 rfl (by ((repeat (apply Lk.there; focus rfl)); exact Lk.here)) (.wk (y := .nils) (.eq (x := .nils) rfl) (wk_nils false)))⟩
    | succ m =>
      refine lwp_ret ⟨.inr rfl, end_of rfl ⟨rfl, rfl, trivial⟩ ⟨.os 2 m 0 (m + 1), [2], .one rfl (res_tmp (show Lk _ 2 (.os 2 m 0 (m + 1)) from by ((repeat (apply Lk.there; focus rfl)); exact Lk.here))), by intro i hi; simp at hi; subst hi; rfl, .snap (snap_os (blk := ⟨m, 1, 0, intsPV (s.inkL s.l.length)⟩) (by simp) rfl rfl ?_ ?_)⟩⟩
      · show 0 + (m + 1) * 1 ≤ (intsPV (s.inkL s.l.length)).length
        rw [length_ints]; omega
      · have e : ((intsPV (s.inkL s.l.length)).drop 0).take ((m + 1) * 1) = intsPV (s.inkL s.l.length) := by rw [List.drop_zero, Nat.mul_one, hm, ← length_ints, List.take_length]
        show SnapL _ _ (((intsPV (s.inkL s.l.length)).drop 0).take ((m + 1) * 1)) _
        rw [e]
        exact (ints_cl _).out _ _
end Go.Proofs.Ythnjhhohfhnhgaa
