/- The slab's Ink, Face, and the small ones. -/
import Derived.Test.YthnjhhohfhnhgaaSlabA
namespace Go.Proofs.Ythnjhhohfhnhgaa
open Go Go.RowKit
set_option maxRecDepth 10000

theorem nil_ro {H : Nat → Option Blk'} {f : Bool} {n : Nat} {xs : List PV} (h : 0 < n) : nilOf H (.ro f n xs) = some (false, []) := by
  cases n with
  | zero => omega
  | succ n => rfl
abbrev secD : Sec := ⟨none, none⟩
def Slb.setInk (s : Slb) (i : Nat) (p : List UInt8) : Slb := ⟨s.l.set i ⟨(s.l.getD i secD).burnt, some p⟩, s.endless, s.supply, s.strokes⟩
def Slb.ink (s : Slb) (n : Int) (p : List UInt8) : Int × Slb := if s.lookE n ≠ 0 then (s.lookE n, s) else if p.length ≠ 64 then (3, s) else (0, s.struck.setInk n.toNat p)
theorem struck_l (s : Slb) : s.struck.l = s.l := by unfold Slb.struck; split <;> rfl
theorem look0 {s : Slb} {n : Int} (h : s.lookE n = 0) : s.out = false ∧ 0 ≤ n ∧ n < s.l.length := by
  unfold Slb.lookE at h
  split at h
  · cases h
  · split at h
    · cases h
    · rename_i h1 h2
      exact ⟨by simpa using h1, by omega, by omega⟩
theorem slabS_ink (b : Nat) (s : Slb) (i : Nat) (p : List UInt8) : slabS b (s.setInk i p) = slabS b s := by simp [slabS, Slb.setInk]
theorem slabL_ink (s : Slb) (i : Nat) (p : List UInt8) (h : i < s.l.length) : (s.l.flatMap secPV).set (i * 2 + 1) (.ro false p.length (pb p)) = (s.setInk i p).l.flatMap secPV := by
  have := set_ink s.l i h (some p)
  rw [Slb.setInk, List.getD_eq_getElem?_getD, List.getElem?_eq_getElem h]
  exact this
theorem clone_ctr (p : List UInt8) (m : Nat) (hm : p.length = m) (h0 : 0 < m) (h1 : m ≤ 1000000) : Ctr Try.prog 41 [.ro false m (pb p)] (.ro false m (pb p)) := by
  subst hm
  refine ctr_go 8 [(0, .ro false p.length (pb p))] Try.func41 rfl rfl rfl (all_cons rfl all_nil) ?_
  (repeat refine lwp_seq_k fun K hK => ?_)
  refine lw_region ?_
  refine RL.qa (oAssign rfl rfl ev_a) ?_
  refine RL.done ?_
  refine hK _ ?_
  clear hK K
  (repeat refine lwp_seq_k fun K hK => ?_)
  refine lw_region ?_
  refine RL.qa (oMove rfl rfl ev_a) ?_
  refine RL.qa (oEqNil (neg := false) rfl rfl ev_a rfl (nil_ro h0) rfl (by rfl)) ?_
  refine RL.done ?_
  refine hK _ ?_
  clear hK K
  (repeat refine lwp_seq_k fun K hK => ?_)
  refine lw_condF (by (first | (apply ev_tmp; ((repeat (apply Lk.there; focus rfl)); exact Lk.here)) | exact ev_cint | exact ev_cbool | exact ev_cnilp | exact ev_cnils | exact ev_func | exact ev_cstr | exact ev_cnilf | exact ev_cnili)) ?_
  refine lwp_skip (hK _ ?_)
  clear hK K
  (repeat refine lwp_seq_k fun K hK => ?_)
  refine lw_region ?_
  refine RL.qa (oLit rfl rfl rfl (by decide) [] evp_a (by rfl) (by simp [leaf])) ?_
  refine RL.qa (oMove rfl rfl ev_a) ?_
  first | (refine RL.wa (oAppendNew rfl rfl rfl (by rfl) (by decide) ev_a (by rfl) (by first | rfl | exact (length_pb _).trans (Nat.mul_one _).symm | (simp; first | done | omega)) ev_a (by rfl) (by first | rfl | decide) (by first | rfl | exact (length_pb _).trans (Nat.mul_one _).symm | (simp; first | done | omega)) (by first | exact leaf_pb _ | (simp [leaf]; first | done | fail)) (by omega) (by omega) (by omega) (by first | exact Nat.zero_add _ | rfl) (by first | exact List.nil_append _ | rfl)) ?_) | (refine RL.wa (oPush rfl rfl rfl (by rfl) (by decide) ev_a (by rfl) (by first | rfl | exact (length_pb _).trans (Nat.mul_one _).symm | (simp [length_pb]; first | done | omega)) (by omega) ev_a (by rfl) (by first | rfl | decide) (by first | rfl | exact (length_pb _).trans (Nat.mul_one _).symm | (simp; first | done | omega)) (by first | exact leaf_pb _ | (simp [leaf]; first | done | fail)) (by omega) (by omega) (by first | exact Nat.zero_add _ | rfl) (by first | exact List.nil_append _ | rfl)) ?_)
  refine RL.qa (oAssign rfl rfl ev_a) ?_
  refine RL.done ?_
  refine hK _ ?_
  clear hK K
  exact lwp_ret ⟨.inr rfl, ret1b rfl (by ((repeat (apply Lk.there; focus rfl)); exact Lk.here)) (by rfl) rfl⟩
theorem ink_ctr (s : Slb) (n : Int) (p : List UInt8) (h63 : s.l.length ≤ 4096) (hp : p.length ≤ 1000000) : SlabC 12 s [.int .i64 n, bsl p] (.int .i64 (s.ink n p).1) (s.ink n p).2 0 := by
  refine ctrO_go 28 [(0, .op 0 0 0), (1, .int .i64 n), (2, bsl p)] [(0, slabS 1 s), (1, slabL s)] Try.func12 rfl rfl rfl (all_cons rfl (all_cons rfl (all_cons rfl all_nil))) (all_cons rfl (all_cons rfl all_nil)) ?_
  (repeat refine lwp_seq_k fun K hK => ?_)
  refine lw_region ?_
  refine RL.qa (oAssign rfl rfl ev_a) ?_
  refine RL.done ?_
  refine hK _ ?_
  clear hK K
  (repeat refine lwp_seq_k fun K hK => ?_)
  refine lw_region ?_
  refine RL.qa (oMove rfl rfl ev_a) ?_
  refine RL.qa (oMove rfl rfl ev_a) ?_
  refine RL.wsa (oSlab 0 1 rfl rfl ev_a evs_a (look_ctr s n h63) rfl rfl rfl (by rfl) rfl) ?_
  refine RL.qa (oAssign rfl rfl ev_a) ?_
  refine RL.done ?_
  refine hK _ ?_
  clear hK K
  by_cases hl : s.lookE n = 0
  · obtain ⟨ho, h0, h1⟩ := look0 hl
    (repeat refine lwp_seq_k fun K hK => ?_)
    refine lw_region ?_
    refine RL.qa (oMove rfl rfl ev_a) ?_
    refine RL.qa (oBin (v := .bool false) rfl rfl ev_a ev_a (by simp [binI, hl])) ?_
    refine RL.done ?_
    refine hK _ ?_
    clear hK K
    (repeat refine lwp_seq_k fun K hK => ?_)
    refine lw_condF (by (first | (apply ev_tmp; ((repeat (apply Lk.there; focus rfl)); exact Lk.here)) | exact ev_cint | exact ev_cbool | exact ev_cnilp | exact ev_cnils | exact ev_func | exact ev_cstr | exact ev_cnilf | exact ev_cnili)) ?_
    refine lwp_skip (hK _ ?_)
    clear hK K
    by_cases h2 : p.length = 64
    · (repeat refine lwp_seq_k fun K hK => ?_)
      refine lw_region ?_
      refine RL.qa (oMove rfl rfl ev_a) ?_
      first | (refine RL.qa (oLen rfl rfl rfl ev_a (by rfl)) ?_) | (refine RL.qa (oLenStr rfl rfl rfl ev_a) ?_) | (refine RL.qa (oLenArr rfl rfl rfl) ?_)
      refine RL.qa (oBin (v := .bool false) rfl rfl ev_a ev_a (by simp [binI, h2])) ?_
      refine RL.done ?_
      refine hK _ ?_
      clear hK K
      (repeat refine lwp_seq_k fun K hK => ?_)
      refine lw_condF (by (first | (apply ev_tmp; ((repeat (apply Lk.there; focus rfl)); exact Lk.here)) | exact ev_cint | exact ev_cbool | exact ev_cnilp | exact ev_cnils | exact ev_func | exact ev_cstr | exact ev_cnilf | exact ev_cnili)) ?_
      refine lwp_skip (hK _ ?_)
      clear hK K
      have e : s.ink n p = (0, s.struck.setInk n.toNat p) := by rw [Slb.ink, if_neg (by simp [hl]), if_neg (by simp [h2])]
      rw [e]
      (repeat refine lwp_seq_k fun K hK => ?_)
      refine lw_region ?_
      refine RL.qa (oMove rfl rfl ev_a) ?_
      refine RL.wsa (oSlab 0 1 rfl rfl ev_a evs_a (stroke_ctr s) rfl rfl rfl (by rfl) rfl) ?_
      refine RL.done ?_
      refine hK _ ?_
      clear hK K
      have hsl : s.struck.l.length = s.l.length := by rw [struck_l]
      generalize s.struck = s2 at *
      have hi : n.toNat < s2.l.length := by omega
      (repeat refine lwp_seq_k fun K hK => ?_)
      refine lw_region_any (by kernel_rfl) ?_
      refine RL.qa (oMove rfl rfl ev_a) ?_
      refine RL.qa (oNilCheck rfl rfl ev_a (by rfl) (by rfl)) ?_
      refine RL.qa (oFieldAddr rfl rfl ev_a (by decide) (by rfl)) ?_
      refine RL.qa (oLoad rfl rfl ev_a (by rfl) (by rfl)) ?_
      refine RL.qa (oMove rfl rfl ev_a) ?_
      refine RL.qa (oMove rfl rfl ev_a) ?_
      refine RL.qa (oCallC rfl rfl ev_a evs_a (clone_ctr p _ rfl (by omega) (by omega))) ?_
      first | (refine RL.qa (oIndexRo rfl rfl ev_a ev_a (by omega) (by omega) (by decide) (by first | rfl | simp)) ?_) | (refine RL.qa (oIndexOs rfl rfl ev_a ev_a (by rfl) (by rfl) (by rfl) (by omega) (by omega) (by decide)) ?_) | (refine RL.qa (oIndexArr rfl rfl ev_a ev_a (by omega) (by omega) (by rfl)) ?_)
      refine RL.qa (oFieldAddr rfl rfl ev_a (by decide) (by rfl)) ?_
      refine RL.w0a (oStore rfl rfl ev_a (by rfl) (by rfl) ev_a (by rfl) (by simp [cellsPV, leaf]) (by rfl) (Nat.zero_le _) (by show 0 + n.toNat * 2 + 1 + 1 ≤ (s2.l.flatMap secPV).length; rw [length_secs]; omega) (cs := (s2.setInk n.toNat p).l.flatMap secPV) (by rw [← slabL_ink s2 n.toNat p hi]; simp [slabL, setAt, cellsPV])) ?_
      refine RL.done ⟨by kernel_rfl, ?_⟩
      refine hK _ ?_
      clear hK K
      (repeat refine lwp_seq_k fun K hK => ?_)
      refine lw_region ?_
      refine RL.qa (oAssign rfl rfl ev_a) ?_
      refine RL.done ?_
      refine hK _ ?_
      clear hK K
      exact lwp_ret ⟨.inr rfl, end_of rfl ⟨by rw [slabS_ink]; rfl, rfl, trivial⟩ (retO1 rfl (by ((repeat (apply Lk.there; focus rfl)); exact Lk.here)) (.eq rfl))⟩
    · (repeat refine lwp_seq_k fun K hK => ?_)
      refine lw_region ?_
      refine RL.qa (oMove rfl rfl ev_a) ?_
      first | (refine RL.qa (oLen rfl rfl rfl ev_a (by rfl)) ?_) | (refine RL.qa (oLenStr rfl rfl rfl ev_a) ?_) | (refine RL.qa (oLenArr rfl rfl rfl) ?_)
      refine RL.qa (oBin (v := .bool true) rfl rfl ev_a ev_a (by simp [binI]; omega)) ?_
      refine RL.done ?_
      refine hK _ ?_
      clear hK K
      (repeat refine lwp_seq_k fun K hK => ?_)
      refine lw_condT (by (first | (apply ev_tmp; ((repeat (apply Lk.there; focus rfl)); exact Lk.here)) | exact ev_cint | exact ev_cbool | exact ev_cnilp | exact ev_cnils | exact ev_func | exact ev_cstr | exact ev_cnilf | exact ev_cnili)) ?_
      (repeat refine lwp_seq_k fun K hK => ?_)
      refine lw_region ?_
      refine RL.qa (oAssign rfl rfl ev_a) ?_
      refine RL.done ?_
      refine hK _ ?_
      clear hK K
      have e : s.ink n p = (3, s) := by rw [Slb.ink, if_neg (by simp [hl]), if_pos h2]
      rw [e]
      exact lwp_ret ⟨.inr rfl, end_of rfl ⟨rfl, rfl, trivial⟩ (retO1 rfl (by ((repeat (apply Lk.there; focus rfl)); exact Lk.here)) (.eq rfl))⟩
  · (repeat refine lwp_seq_k fun K hK => ?_)
    refine lw_region ?_
    refine RL.qa (oMove rfl rfl ev_a) ?_
    refine RL.qa (oBin (v := .bool true) rfl rfl ev_a ev_a (by simp [binI, hl])) ?_
    refine RL.done ?_
    refine hK _ ?_
    clear hK K
    (repeat refine lwp_seq_k fun K hK => ?_)
    refine lw_condT (by (first | (apply ev_tmp; ((repeat (apply Lk.there; focus rfl)); exact Lk.here)) | exact ev_cint | exact ev_cbool | exact ev_cnilp | exact ev_cnils | exact ev_func | exact ev_cstr | exact ev_cnilf | exact ev_cnili)) ?_
    (repeat refine lwp_seq_k fun K hK => ?_)
    refine lw_region ?_
    refine RL.qa (oMove rfl rfl ev_a) ?_
    refine RL.qa (oAssign rfl rfl ev_a) ?_
    refine RL.done ?_
    refine hK _ ?_
    clear hK K
    have e : s.ink n p = (s.lookE n, s) := by rw [Slb.ink, if_pos hl]
    rw [e]
    exact lwp_ret ⟨.inr rfl, end_of rfl ⟨rfl, rfl, trivial⟩ (retO1 rfl (by ((repeat (apply Lk.there; focus rfl)); exact Lk.here)) (.eq rfl))⟩
end Go.Proofs.Ythnjhhohfhnhgaa
