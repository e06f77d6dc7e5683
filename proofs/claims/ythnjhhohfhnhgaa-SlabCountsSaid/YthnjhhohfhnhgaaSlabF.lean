/- The slab's Burn. -/
import Derived.Test.YthnjhhohfhnhgaaSlabE
namespace Go.Proofs.Ythnjhhohfhnhgaa
open Go Go.RowKit
set_option maxRecDepth 10000

def Slb.setBurn (s : Slb) (i : Nat) (b : List UInt8) : Slb := ⟨s.l.set i ⟨some b, none⟩, s.endless, s.supply, s.strokes⟩
def Slb.burn1 (s : Slb) (i : Nat) : Option Slb := match (s.l.getD i secD).ink with
  | none => some s
  | some b => if s.out then none else some (s.struck.setBurn i b)
def Slb.burnGo : Nat → Nat → Slb → Int × Slb
  | 0, _, s => (0, s)
  | k + 1, i, s => match s.burn1 i with
    | none => (12, s)
    | some t => Slb.burnGo k (i + 1) t
def Slb.burn (s : Slb) : Int × Slb := if s.lookE 0 ≠ 0 then (s.lookE 0, s) else Slb.burnGo s.l.length 0 s
theorem wf_struck {s : Slb} (h : s.wf) : s.struck.wf := by unfold Slb.wf; rw [struck_l]; exact h
theorem wf_setBurn {s : Slb} (h : s.wf) {i : Nat} {b : List UInt8} (hb : b.length = 64) : (s.setBurn i b).wf := by
  refine ⟨by simpa [Slb.setBurn] using h.1, fun x hx => ?_⟩
  rcases List.mem_or_eq_of_mem_set hx with hx | rfl
  · exact h.2 x hx
  · exact ⟨fun c hc => by injection hc with hc; rw [← hc]; exact hb, fun c hc => by cases hc⟩
theorem wf_setInk {s : Slb} (h : s.wf) {i : Nat} {b : List UInt8} (hi : i < s.l.length) (hb : b.length = 64) : (s.setInk i b).wf := by
  refine ⟨by simpa [Slb.setInk] using h.1, fun x hx => ?_⟩
  rcases List.mem_or_eq_of_mem_set hx with hx | rfl
  · exact h.2 x hx
  · refine ⟨fun c hc => ?_, fun c hc => by injection hc with hc; rw [← hc]; exact hb⟩
    rw [List.getD_eq_getElem?_getD, List.getElem?_eq_getElem hi] at hc
    exact (h.2 _ (List.getElem_mem hi)).1 c hc
theorem slabS_burn (b : Nat) (s : Slb) (i : Nat) (p : List UInt8) : slabS b (s.setBurn i p) = slabS b s := by simp [slabS, Slb.setBurn]
theorem slabL_burn (s : Slb) (i : Nat) (p : List UInt8) : setAt (s.l.flatMap secPV) (i * 2) [.ro false p.length (pb p), .nils] = (s.setBurn i p).l.flatMap secPV := set_secs s.l i ⟨some p, none⟩
theorem burn_ctr (s : Slb) (hw : s.wf) : SlabC 14 s [] (.int .i64 s.burn.1) s.burn.2 1 := by
  refine ctrO_go 37 [(0, .op 0 0 0)] [(0, slabS 1 s), (1, slabL s)] Try.func14 rfl rfl rfl (all_cons rfl all_nil) (all_cons rfl (all_cons rfl all_nil)) ?_
  have h63 := hw.1
  (repeat refine lwp_seq_k fun K hK => ?_)
  refine lw_region ?_
  refine RL.qa (oAssign rfl rfl ev_a) ?_
  refine RL.done ?_
  refine hK _ ?_
  clear hK K
  (repeat refine lwp_seq_k fun K hK => ?_)
  refine lw_region ?_
  refine RL.qa (oMove rfl rfl ev_a) ?_
  refine RL.wsa (oSlab 0 1 rfl rfl ev_a evs_a (look_ctr s 0 h63) rfl rfl rfl (by rfl) rfl) ?_
  refine RL.qa (oAssign rfl rfl ev_a) ?_
  refine RL.done ?_
  refine hK _ ?_
  clear hK K
  by_cases hl : s.lookE 0 = 0
  · (repeat refine lwp_seq_k fun K hK => ?_)
    refine lw_region ?_
    refine RL.qa (oMove rfl rfl ev_a) ?_
    refine RL.qa (oBin (v := .bool false) rfl rfl ev_a ev_a (by simp [binI, hl])) ?_
    refine RL.done ?_
    refine hK _ ?_
    clear hK K
    (repeat refine lwp_seq_k fun K hK => ?_)
    refine lw_condF (by (first | (apply ev_tmp; ((repeat (apply Lk.there; focus rfl)); exact Lk.here)) | exact ev_cint | exact ev_cbool | exact ev_cnilp | exact ev_cnils | exact ev_func | exact ev_cstr | exact ev_cnilf | exact ev_cnili)) ?_
    refine lwp_skip (hK _ ?_)
    clear hK K
    (repeat refine lwp_seq_k fun K hK => ?_)
    refine lw_region ?_
    refine RL.qa (oMove rfl rfl ev_a) ?_
    refine RL.qa (oNilCheck rfl rfl ev_a (by rfl) (by rfl)) ?_
    refine RL.qa (oFieldAddr rfl rfl ev_a (by decide) (by rfl)) ?_
    refine RL.qa (oLoad rfl rfl ev_a (by rfl) (by rfl)) ?_
    first | (refine RL.qa (oLen rfl rfl rfl ev_a (by rfl)) ?_) | (refine RL.qa (oLenStr rfl rfl rfl ev_a) ?_) | (refine RL.qa (oLenArr rfl rfl rfl) ?_)
    refine RL.qa (oMove rfl rfl ev_a) ?_
    refine RL.done ?_
    refine hK _ ?_
    clear hK K
    have hB : s.burn = Slb.burnGo s.l.length 0 s := by rw [Slb.burn, if_neg (by simp [hl])]
    generalize s.burn = res at *
    (repeat refine lwp_seq_k fun K hK => ?_)
    refine lwp_block ?_
    refine lwp_loopR (fun q st => ∃ (j : Nat) (t : Slb), q = s.l.length - j ∧ j ≤ s.l.length ∧ t.l.length = s.l.length ∧ t.wf ∧ res = Slb.burnGo (s.l.length - j) j t ∧ st = St' [(0, .op 0 0 0), (14, .os 1 0 0 s.l.length), (15, .int .i64 s.l.length), (16, .int .i64 j)] [(0, slabS 1 t), (1, slabL t)] 2) s.l.length _
      (lessR_of [0, 1] [] rfl (by decide) (fun m hm => by match m, hm with | 0, _ => rfl | 1, _ => rfl) (by simp) (all_cons ⟨_, by ((repeat (apply Lk.there; focus rfl)); exact Lk.here), by exact .opI rfl⟩ (all_cons ⟨_, by ((repeat (apply Lk.there; focus rfl)); exact Lk.here), by exact .osI rfl⟩ (all_cons ⟨_, by ((repeat (apply Lk.there; focus rfl)); exact Lk.here), by exact .eq rfl⟩ (all_cons ⟨_, by ((repeat (apply Lk.there; focus rfl)); exact Lk.here), by exact .eq rfl⟩ all_nil))))
        (all_cons ⟨_, _, by rfl, by rfl, by exact slabS_tr rfl⟩ (all_cons ⟨_, _, by rfl, by rfl, by exact slabL_tr⟩ all_nil))) ⟨0, s, rfl, Nat.zero_le _, rfl, hw, hB, rfl⟩ ?_
    rintro q _ ⟨j, t, rfl, hj, htl, hwt, hres, rfl⟩
    by_cases hlt : j < s.l.length
    · have hi : j < t.l.length := by omega
      have hstep : res = match t.burn1 j with | none => (12, t) | some t' => Slb.burnGo (s.l.length - (j + 1)) (j + 1) t' := by
        rw [hres, show s.l.length - j = (s.l.length - (j + 1)) + 1 by omega]
        rfl
      have hb1 : t.burn1 j = match t.l[j].ink with | none => some t | some b => if t.out then none else some (t.struck.setBurn j b) := by
        unfold Slb.burn1
        rw [List.getD_eq_getElem?_getD, List.getElem?_eq_getElem hi]
        rfl
      clear hres
      (repeat refine lwp_seq_k fun K hK => ?_)
      refine lw_region ?_
      refine RL.qa (oBin (v := .bool true) rfl rfl ev_a ev_a (by simp [binI]; omega)) ?_
      refine RL.done ?_
      refine hK _ ?_
      clear hK K
      (repeat refine lwp_seq_k fun K hK => ?_)
      refine lw_condT (by (first | (apply ev_tmp; ((repeat (apply Lk.there; focus rfl)); exact Lk.here)) | exact ev_cint | exact ev_cbool | exact ev_cnilp | exact ev_cnils | exact ev_func | exact ev_cstr | exact ev_cnilf | exact ev_cnili)) ?_
      refine lwp_skip (hK _ ?_)
      clear hK K
      (repeat refine lwp_seq_k fun K hK => ?_)
      refine lwp_block ?_
      (repeat refine lwp_seq_k fun K hK => ?_)
      refine lw_region ?_
      refine RL.qa (oMove rfl rfl ev_a) ?_
      refine RL.qa (oIndexOs rfl rfl ev_a ev_a (by rfl) (by rfl) (by rfl) (by omega) (by omega) (by decide)) ?_
      refine RL.qa (oLoadA rfl rfl ev_a (at_slab (s := t) (i := j) (by rfl) hi (by omega)) (by rfl) (by simp) (by rfl)) ?_
      refine RL.wa (oAlloc 1 (Nat.succ_pos 0) rfl rfl (by rfl)) ?_
      refine RL.qa (oAssign rfl rfl ev_a) ?_
      refine RL.w0a (oStore rfl rfl ev_a (by rfl) (by rfl) ev_a (by rfl) (by simp [cellsPV, leaf_ofO]) (by rfl) (Nat.zero_le _) (by exact Nat.le_of_ble_eq_true rfl) (by rfl)) ?_
      refine RL.done ?_
      refine hK _ ?_
      clear hK K
      have hmm := hwt.2 _ (List.getElem_mem hi)
      generalize t.l[j] = x at *
      obtain ⟨bu, ik⟩ := x
      cases ik with
      | some b =>
        have hb := hmm.2 b rfl
        (repeat refine lwp_seq_k fun K hK => ?_)
        refine lw_region ?_
        refine RL.qa (oFieldAddr rfl rfl ev_a (by decide) (by rfl)) ?_
        refine RL.qa (oLoad rfl rfl ev_a (by rfl) (by rfl)) ?_
        refine RL.qa (oEqNil (neg := false) rfl rfl ev_a rfl (nil_ro (by omega)) rfl (by rfl)) ?_
        refine RL.done ?_
        refine hK _ ?_
        clear hK K
        (repeat refine lwp_seq_k fun K hK => ?_)
        refine lw_condF (by (first | (apply ev_tmp; ((repeat (apply Lk.there; focus rfl)); exact Lk.here)) | exact ev_cint | exact ev_cbool | exact ev_cnilp | exact ev_cnils | exact ev_func | exact ev_cstr | exact ev_cnilf | exact ev_cnili)) ?_
        refine lwp_skip (hK _ ?_)
        clear hK K
        (repeat refine lwp_seq_k fun K hK => ?_)
        refine lw_region ?_
        refine RL.qa (oMove rfl rfl ev_a) ?_
        refine RL.wsa (oSlab 0 1 rfl rfl ev_a evs_a (stroke_ctr t) rfl rfl rfl (by rfl) rfl) ?_
        refine RL.qa (oNot rfl rfl ev_a) ?_
        refine RL.done ?_
        refine hK _ ?_
        clear hK K
        by_cases ho : t.out = true
        · have e1 : res = (12, t) := by rw [hstep, hb1]; simp [ho]
          have e2 : t.struck = t := by rw [Slb.struck, if_pos ho]
          rw [e2, ho]
          (repeat refine lwp_seq_k fun K hK => ?_)
          refine lw_condT (by (first | (apply ev_tmp; ((repeat (apply Lk.there; focus rfl)); exact Lk.here)) | exact ev_cint | exact ev_cbool | exact ev_cnilp | exact ev_cnils | exact ev_func | exact ev_cstr | exact ev_cnilf | exact ev_cnili)) ?_
          (repeat refine lwp_seq_k fun K hK => ?_)
          refine lw_region ?_
          refine RL.qa (oAssign rfl rfl ev_a) ?_
          refine RL.done ?_
          refine hK _ ?_
          clear hK K
          rw [e1]
          exact lwp_ret ⟨.inr rfl, end_of rfl ⟨rfl, rfl, trivial⟩ (retO1 rfl (by ((repeat (apply Lk.there; focus rfl)); exact Lk.here)) (.eq rfl))⟩
        · have ho' : t.out = false := by simpa using ho
          have e1 : res = Slb.burnGo (s.l.length - (j + 1)) (j + 1) (t.struck.setBurn j b) := by rw [hstep, hb1]; simp [ho']
          have hsl : t.struck.l.length = s.l.length := by rw [struck_l]; exact htl
          have hwf2 := wf_setBurn (i := j) (wf_struck hwt) hb
          rw [ho']
          generalize t.struck = t2 at *
          (repeat refine lwp_seq_k fun K hK => ?_)
          refine lw_condF (by (first | (apply ev_tmp; ((repeat (apply Lk.there; focus rfl)); exact Lk.here)) | exact ev_cint | exact ev_cbool | exact ev_cnilp | exact ev_cnils | exact ev_func | exact ev_cstr | exact ev_cnilf | exact ev_cnili)) ?_
          refine lwp_skip (hK _ ?_)
          clear hK K
          (repeat refine lwp_seq_k fun K hK => ?_)
          refine lw_region_any (by kernel_rfl) ?_
          refine RL.qa (oMove rfl rfl ev_a) ?_
          refine RL.qa (oNilCheck rfl rfl ev_a (by rfl) (by rfl)) ?_
          refine RL.qa (oFieldAddr rfl rfl ev_a (by decide) (by rfl)) ?_
          refine RL.qa (oLoad rfl rfl ev_a (by rfl) (by rfl)) ?_
          refine RL.qa (oMove rfl rfl ev_a) ?_
          refine RL.qa (oFieldAddr rfl rfl ev_a (by decide) (by rfl)) ?_
          refine RL.qa (oLoad rfl rfl ev_a (by rfl) (by rfl)) ?_
          refine RL.qa (oBuildS (ys := [.ro false b.length (pb b), .nils]) rfl rfl evp_a (by rfl)) ?_
          refine RL.qa (oIndexOs rfl rfl ev_a ev_a (by rfl) (by rfl) (by rfl) (by omega) (by omega) (by decide)) ?_
          refine RL.w0a (oStore rfl rfl ev_a (by rfl) (by rfl) ev_a (by rfl) (by simp [cellsPV, leaf]) (by rfl) (Nat.zero_le _) (by show 0 + (j : Int).toNat * 2 + 2 ≤ (t2.l.flatMap secPV).length; rw [length_secs]; omega) (cs := (t2.setBurn j b).l.flatMap secPV) (by rw [← slabL_burn t2 j b]; simp [slabL, cellsPV])) ?_
          refine RL.done ⟨by kernel_rfl, ?_⟩
          refine hK _ ?_
          clear hK K
          (repeat refine lwp_seq_k fun K hK => ?_)
          refine lw_region ?_
          first | (refine RL.qa (oArith rfl rfl ev_a ev_a (by rfl) (by omega) (by omega)) ?_) | (refine RL.qa (oBin rfl rfl ev_a ev_a (by rfl)) ?_)
          refine RL.qa (oMove rfl rfl ev_a) ?_
          refine RL.done ?_
          exact ⟨_, _, (by omega : s.l.length - (j + 1) < s.l.length - j), lessR_of [0, 1] [] rfl (by decide) (fun m hm => by match m, hm with | 0, _ => rfl | 1, _ => rfl) (by simp) (all_cons ⟨_, by ((repeat (apply Lk.there; focus rfl)); exact Lk.here), by exact .opI rfl⟩ (all_cons ⟨_, by ((repeat (apply Lk.there; focus rfl)); exact Lk.here), by exact .osI rfl⟩ (all_cons ⟨_, by ((repeat (apply Lk.there; focus rfl)); exact Lk.here), by exact .eq rfl⟩ (all_cons ⟨_, by ((repeat (apply Lk.there; focus rfl)); exact Lk.here), by exact .eq rfl⟩ all_nil))))
            (all_cons ⟨_, _, by rfl, by rfl, by rw [slabS_burn]; exact slabS_tr rfl⟩ (all_cons ⟨_, _, by rfl, by rfl, by exact slabL_tr⟩ all_nil)), j + 1, t2.setBurn j b, rfl, by omega, by simpa [Slb.setBurn] using hsl, hwf2, e1, rfl⟩
      | none =>
        have e1 : res = Slb.burnGo (s.l.length - (j + 1)) (j + 1) t := by rw [hstep, hb1]
        (repeat refine lwp_seq_k fun K hK => ?_)
        refine lw_region ?_
        refine RL.qa (oFieldAddr rfl rfl ev_a (by decide) (by rfl)) ?_
        refine RL.qa (oLoad rfl rfl ev_a (by rfl) (by rfl)) ?_
        refine RL.qa (oEqNil (neg := false) rfl rfl ev_a rfl (by rfl) rfl (by rfl)) ?_
        refine RL.done ?_
        refine hK _ ?_
        clear hK K
        (repeat refine lwp_seq_k fun K hK => ?_)
        refine lw_condT (by (first | (apply ev_tmp; ((repeat (apply Lk.there; focus rfl)); exact Lk.here)) | exact ev_cint | exact ev_cbool | exact ev_cnilp | exact ev_cnils | exact ev_func | exact ev_cstr | exact ev_cnilf | exact ev_cnili)) ?_
        refine lwp_exit ?_
        simp only [thenL, inBlk, if_true]
        clear hK K
        refine hK _ ?_
        clear hK K
        (repeat refine lwp_seq_k fun K hK => ?_)
        refine lw_region ?_
        first | (refine RL.qa (oArith rfl rfl ev_a ev_a (by rfl) (by omega) (by omega)) ?_) | (refine RL.qa (oBin rfl rfl ev_a ev_a (by rfl)) ?_)
        refine RL.qa (oMove rfl rfl ev_a) ?_
        refine RL.done ?_
        exact ⟨_, _, (by omega : s.l.length - (j + 1) < s.l.length - j), lessR_of [0, 1] [] rfl (by decide) (fun m hm => by match m, hm with | 0, _ => rfl | 1, _ => rfl) (by simp) (all_cons ⟨_, by ((repeat (apply Lk.there; focus rfl)); exact Lk.here), by exact .opI rfl⟩ (all_cons ⟨_, by ((repeat (apply Lk.there; focus rfl)); exact Lk.here), by exact .osI rfl⟩ (all_cons ⟨_, by ((repeat (apply Lk.there; focus rfl)); exact Lk.here), by exact .eq rfl⟩ (all_cons ⟨_, by ((repeat (apply Lk.there; focus rfl)); exact Lk.here), by exact .eq rfl⟩ all_nil))))
          (all_cons ⟨_, _, by rfl, by rfl, by exact slabS_tr rfl⟩ (all_cons ⟨_, _, by rfl, by rfl, by exact slabL_tr⟩ all_nil)), j + 1, t, rfl, by omega, htl, hwt, e1, rfl⟩
    · obtain rfl : j = s.l.length := by omega
      have e1 : res = (0, t) := by rw [hres, Nat.sub_self]; rfl
      (repeat refine lwp_seq_k fun K hK => ?_)
      refine lw_region ?_
      refine RL.qa (oBin (v := .bool false) rfl rfl ev_a ev_a (by simp [binI])) ?_
      refine RL.done ?_
      refine hK _ ?_
      clear hK K
      (repeat refine lwp_seq_k fun K hK => ?_)
      refine lw_condF (by (first | (apply ev_tmp; ((repeat (apply Lk.there; focus rfl)); exact Lk.here)) | exact ev_cint | exact ev_cbool | exact ev_cnilp | exact ev_cnils | exact ev_func | exact ev_cstr | exact ev_cnilf | exact ev_cnili)) ?_
      refine lwp_exit ?_
      simp only [thenL, inBlk, if_true]
      clear hK K
      refine hK _ ?_
      clear hK K
      (repeat refine lwp_seq_k fun K hK => ?_)
      refine lw_region ?_
      refine RL.qa (oAssign rfl rfl ev_a) ?_
      refine RL.done ?_
      refine hK _ ?_
      clear hK K
      rw [e1]
      exact lwp_ret ⟨.inr rfl, end_of rfl ⟨rfl, rfl, trivial⟩ (retO1 rfl (by ((repeat (apply Lk.there; focus rfl)); exact Lk.here)) (.eq rfl))⟩
  · (repeat refine lwp_seq_k fun K hK => ?_)
    refine lw_region ?_
    refine RL.qa (oMove rfl rfl ev_a) ?_
    refine RL.qa (oBin (v := .bool true) rfl rfl ev_a ev_a (by simp [binI, hl])) ?_
    refine RL.done ?_
    refine hK _ ?_
    clear hK K
    (repeat refine lwp_seq_k fun K hK => ?_)
    refine lw_condT (by (first | (apply ev_tmp; ((repeat (apply Lk.there; focus rfl)); exact Lk.here)) | exact ev_cint | exact ev_cbool | exact ev_cnilp | exact ev_cnils | exact ev_func | exact ev_cstr | exact ev_cnilf | exact ev_cnili)) ?_
    (repeat refine lwp_seq_k fun K hK => ?_)
    refine lw_region ?_
    refine RL.qa (oMove rfl rfl ev_a) ?_
    refine RL.qa (oAssign rfl rfl ev_a) ?_
    refine RL.done ?_
    refine hK _ ?_
    clear hK K
    have e : s.burn = (s.lookE 0, s) := by rw [Slb.burn, if_pos hl]
    rw [e]
    exact lwp_ret ⟨.inr rfl, end_of rfl ⟨rfl, rfl, trivial⟩ (retO1 rfl (by ((repeat (apply Lk.there; focus rfl)); exact Lk.here)) (.eq rfl))⟩
end Go.Proofs.Ythnjhhohfhnhgaa
