/- The slab's Face, Supply, Strokes, Sectors, New. -/
import Derived.Test.YthnjhhohfhnhgaaSlabB
namespace Go.Proofs.Ythnjhhohfhnhgaa
open Go Go.RowKit
set_option maxRecDepth 10000

/-- All faces are of 64 bytes. -/
def Slb.wf (s : Slb) : Prop := s.l.length ≤ 4096 ∧ ∀ x ∈ s.l, (∀ b, x.burnt = some b → b.length = 64) ∧ (∀ b, x.ink = some b → b.length = 64)
def noughts : List UInt8 := List.replicate 64 0
def Slb.face (s : Slb) (n : Nat) : List UInt8 := match (s.l.getD n secD).ink with
  | some b => b
  | none => ((s.l.getD n secD).burnt).getD noughts
theorem face_len {s : Slb} (h : s.wf) (n : Nat) : (s.face n).length = 64 := by
  unfold Slb.face
  rcases Nat.lt_or_ge n s.l.length with hn | hn
  · have hm := h.2 s.l[n] (List.getElem_mem hn)
    rw [List.getD_eq_getElem?_getD, List.getElem?_eq_getElem hn, Option.getD_some]
    cases e : s.l[n].ink with
    | some b => exact hm.2 b e
    | none =>
      cases e2 : s.l[n].burnt with
      | some b => exact hm.1 b e2
      | none => rfl
  · rw [List.getD_eq_getElem?_getD, List.getElem?_eq_none hn]
    rfl
theorem at_slab {HL : List (Nat × Blk')} {s : Slb} {i b off : Nat} (hb : hget HL b = some (slabL s)) (h : i < s.l.length) (ho : off = i * 2) : cellsAt (hget HL) (.op b 0 off) = some (ofO s.l[i].burnt :: ofO s.l[i].ink :: (s.l.drop (i + 1)).flatMap secPV, [b]) := by
  subst ho
  simp only [cellsAt, hb]
  rw [if_pos (show 0 = (slabL s).gen from rfl), show (slabL s).cells = s.l.flatMap secPV from rfl, at_secs s.l i h]
theorem copy_whole {b : List UInt8} (h : b.length = 64) : setAt (pb noughts) 0 ((pb b).take (min 64 64)) = pb b := by
  apply List.ext_getElem?
  intro i
  have hl : (pb b).length = 64 := by rw [length_pb, h]
  rw [show min 64 64 = (pb b).length by rw [hl]; rfl, List.take_length, get_setAt _ _ _ _ (by rw [hl]; decide)]
  split
  · rfl
  · rw [List.getElem?_eq_none (by rw [length_pb]; simp [noughts]; omega), List.getElem?_eq_none (by omega)]
theorem face_ok (s : Slb) (n : Int) (hw : s.wf) (hl : s.lookE n = 0) : SlabC 17 s [.int .i64 n] (.tup [.ro false 64 (pb (s.face n.toNat)), .int .i64 0]) s 2 := by
  refine ctrO_go 35 [(0, .op 0 0 0), (1, .int .i64 n)] [(0, slabS 1 s), (1, slabL s)] Try.func17 rfl rfl rfl (all_cons rfl (all_cons rfl all_nil)) (all_cons rfl (all_cons rfl all_nil)) ?_
  obtain ⟨ho, h0, h1⟩ := look0 hl
  have hi : n.toNat < s.l.length := by omega
  (repeat refine lwp_seq_k fun K hK => ?_)
  refine lw_region ?_
  refine RL.qa (oAssign rfl rfl ev_a) ?_
  refine RL.qa (oAssign rfl rfl ev_a) ?_
  refine RL.done ?_
  refine hK _ ?_
  clear hK K
  (repeat refine lwp_seq_k fun K hK => ?_)
  refine lw_region ?_
  refine RL.qa (oMove rfl rfl ev_a) ?_
  refine RL.qa (oMove rfl rfl ev_a) ?_
  refine RL.wsa (oSlab 0 1 rfl rfl ev_a evs_a (look_ctr s n hw.1) rfl rfl rfl (by rfl) rfl) ?_
  refine RL.qa (oAssign rfl rfl ev_a) ?_
  refine RL.done ?_
  refine hK _ ?_
  clear hK K
  (repeat refine lwp_seq_k fun K hK => ?_)
  refine lw_region ?_
  refine RL.qa (oMove rfl rfl ev_a) ?_
  refine RL.qa (oBin (v := .bool false) rfl rfl ev_a ev_a (by simp [binI, hl])) ?_
  refine RL.done ?_
  refine hK _ ?_
  clear hK K
  (repeat refine lwp_seq_k fun K hK => ?_)
  refine lw_condF (by (first | (apply ev_tmp; ((repeat (apply Lk.there; focus rfl)); exact Lk.here)) | exact ev_cint | exact ev_cbool | exact ev_cnilp | exact ev_cnils | exact ev_func | exact ev_cstr | exact ev_cnilf | exact ev_cnili)) ?_
  refine lwp_skip (hK _ ?_)
  clear hK K
  (repeat refine lwp_seq_k fun K hK => ?_)
  refine lw_region ?_
  refine RL.wa (oMakeB (l := 64) rfl rfl ev_a ev_a (by omega)) ?_
  refine RL.qa (oAssign rfl rfl ev_a) ?_
  refine RL.done ?_
  refine hK _ ?_
  clear hK K
  have hm := hw.2 _ (List.getElem_mem hi)
  have hf : s.face n.toNat = match s.l[n.toNat].ink with | some b => b | none => s.l[n.toNat].burnt.getD noughts := by
    unfold Slb.face
    rw [List.getD_eq_getElem?_getD, List.getElem?_eq_getElem hi]
    rfl
  (repeat refine lwp_seq_k fun K hK => ?_)
  refine lw_region ?_
  refine RL.qa (oMove rfl rfl ev_a) ?_
  refine RL.qa (oNilCheck rfl rfl ev_a (by rfl) (by rfl)) ?_
  refine RL.qa (oFieldAddr rfl rfl ev_a (by decide) (by rfl)) ?_
  refine RL.qa (oLoad rfl rfl ev_a (by rfl) (by rfl)) ?_
  refine RL.qa (oMove rfl rfl ev_a) ?_
  first | (refine RL.qa (oIndexRo rfl rfl ev_a ev_a (by omega) (by omega) (by decide) (by first | rfl | simp)) ?_) | (refine RL.qa (oIndexOs rfl rfl ev_a ev_a (by rfl) (by rfl) (by rfl) (by omega) (by omega) (by decide)) ?_) | (refine RL.qa (oIndexArr rfl rfl ev_a ev_a (by omega) (by omega) (by rfl)) ?_)
  refine RL.qa (oLoadA rfl rfl ev_a (at_slab (s := s) (i := n.toNat) (by rfl) hi (by omega)) (by rfl) (by simp) (by rfl)) ?_
  refine RL.wa (oAlloc 1 (Nat.succ_pos 0) rfl rfl (by rfl)) ?_
  refine RL.w0a (oStore rfl rfl ev_a (by rfl) (by rfl) ev_a (by rfl) (by simp [cellsPV, leaf_ofO]) (by rfl) (Nat.zero_le _) (by exact Nat.le_of_ble_eq_true rfl) (by rfl)) ?_
  refine RL.done ?_
  refine hK _ ?_
  clear hK K
  generalize s.l[n.toNat] = x at *
  obtain ⟨bu, ik⟩ := x
  cases ik with
  | some b =>
    have hb := hm.2 b rfl
    (repeat refine lwp_seq_k fun K hK => ?_)
    refine lw_region ?_
    refine RL.qa (oFieldAddr rfl rfl ev_a (by decide) (by rfl)) ?_
    refine RL.qa (oLoad rfl rfl ev_a (by rfl) (by rfl)) ?_
    refine RL.qa (oEqNil (neg := true) rfl rfl ev_a rfl (nil_ro (by omega)) rfl (by rfl)) ?_
    refine RL.done ?_
    refine hK _ ?_
    clear hK K
    (repeat refine lwp_seq_k fun K hK => ?_)
    refine lw_condT (by (first | (apply ev_tmp; ((repeat (apply Lk.there; focus rfl)); exact Lk.here)) | exact ev_cint | exact ev_cbool | exact ev_cnilp | exact ev_cnils | exact ev_func | exact ev_cstr | exact ev_cnilf | exact ev_cnili)) ?_
    (repeat refine lwp_seq_k fun K hK => ?_)
    refine lw_region ?_
    refine RL.qa (oMove rfl rfl ev_a) ?_
    refine RL.qa (oFieldAddr rfl rfl ev_a (by decide) (by rfl)) ?_
    refine RL.qa (oLoad rfl rfl ev_a (by rfl) (by rfl)) ?_
    refine RL.wa (oCopy rfl rfl rfl ev_a (by rfl) (by omega) (by decide) ev_a (by rfl) (by exact length_pb b) (leaf_pb b) (zs := pb b) (by rw [hb]; exact copy_whole hb)) ?_
    refine RL.done ?_
    refine hK _ ?_
    clear hK K
    (repeat refine lwp_seq_k fun K hK => ?_)
    refine lw_region ?_
    refine RL.qa (oMove rfl rfl ev_a) ?_
    refine RL.qa (oAssign rfl rfl ev_a) ?_
    refine RL.qa (oAssign rfl rfl ev_a) ?_
    refine RL.done ?_
    refine hK _ ?_
    clear hK K
    exact lwp_ret ⟨.inr rfl, end_of rfl ⟨rfl, rfl, trivial⟩ (retO2 rfl (by ((repeat (apply Lk.there; focus rfl)); exact Lk.here)) (by ((repeat (apply Lk.there; focus rfl)); exact Lk.here)) [2] (by intro i hi; simp at hi; subst hi; rfl) (.snap (snap_osw rfl (by rw [hf]; exact hb) (by first | (rw [hf]; rfl) | rw [hf]))) (.eq rfl))⟩
  | none =>
    (repeat refine lwp_seq_k fun K hK => ?_)
    refine lw_region ?_
    refine RL.qa (oFieldAddr rfl rfl ev_a (by decide) (by rfl)) ?_
    refine RL.qa (oLoad rfl rfl ev_a (by rfl) (by rfl)) ?_
    refine RL.qa (oEqNil (neg := true) rfl rfl ev_a rfl (by rfl) rfl (by rfl)) ?_
    refine RL.done ?_
    refine hK _ ?_
    clear hK K
    (repeat refine lwp_seq_k fun K hK => ?_)
    refine lw_condF (by (first | (apply ev_tmp; ((repeat (apply Lk.there; focus rfl)); exact Lk.here)) | exact ev_cint | exact ev_cbool | exact ev_cnilp | exact ev_cnils | exact ev_func | exact ev_cstr | exact ev_cnilf | exact ev_cnili)) ?_
    cases bu with
    | some b =>
      have hb := hm.1 b rfl
      (repeat refine lwp_seq_k fun K hK => ?_)
      refine lw_region ?_
      refine RL.qa (oMove rfl rfl ev_a) ?_
      refine RL.qa (oFieldAddr rfl rfl ev_a (by decide) (by rfl)) ?_
      refine RL.qa (oLoad rfl rfl ev_a (by rfl) (by rfl)) ?_
      refine RL.wa (oCopy rfl rfl rfl ev_a (by rfl) (by omega) (by decide) ev_a (by rfl) (by exact length_pb b) (leaf_pb b) (zs := pb b) (by rw [hb]; exact copy_whole hb)) ?_
      refine RL.done ?_
      refine hK _ ?_
      clear hK K
      (repeat refine lwp_seq_k fun K hK => ?_)
      refine lw_region ?_
      refine RL.qa (oMove rfl rfl ev_a) ?_
      refine RL.qa (oAssign rfl rfl ev_a) ?_
      refine RL.qa (oAssign rfl rfl ev_a) ?_
      refine RL.done ?_
      refine hK _ ?_
      clear hK K
      exact lwp_ret ⟨.inr rfl, end_of rfl ⟨rfl, rfl, trivial⟩ (retO2 rfl (by ((repeat (apply Lk.there; focus rfl)); exact Lk.here)) (by ((repeat (apply Lk.there; focus rfl)); exact Lk.here)) [2] (by intro i hi; simp at hi; subst hi; rfl) (.snap (snap_osw rfl (by rw [hf]; exact hb) (by first | (rw [hf]; rfl) | rw [hf]))) (.eq rfl))⟩
    | none =>
      (repeat refine lwp_seq_k fun K hK => ?_)
      refine lw_region ?_
      refine RL.qa (oMove rfl rfl ev_a) ?_
      refine RL.qa (oFieldAddr rfl rfl ev_a (by decide) (by rfl)) ?_
      refine RL.qa (oLoad rfl rfl ev_a (by rfl) (by rfl)) ?_
      refine RL.wa (oCopy rfl rfl rfl ev_a (by rfl) (by omega) (by decide) ev_a (by rfl) (by rfl) (by simp) (zs := pb noughts) (by rfl)) ?_
      refine RL.done ?_
      refine hK _ ?_
      clear hK K
      (repeat refine lwp_seq_k fun K hK => ?_)
      refine lw_region ?_
      refine RL.qa (oMove rfl rfl ev_a) ?_
      refine RL.qa (oAssign rfl rfl ev_a) ?_
      refine RL.qa (oAssign rfl rfl ev_a) ?_
      refine RL.done ?_
      refine hK _ ?_
      clear hK K
      exact lwp_ret ⟨.inr rfl, end_of rfl ⟨rfl, rfl, trivial⟩ (retO2 rfl (by ((repeat (apply Lk.there; focus rfl)); exact Lk.here)) (by ((repeat (apply Lk.there; focus rfl)); exact Lk.here)) [2] (by intro i hi; simp at hi; subst hi; rfl) (.snap (snap_osw rfl (by rw [hf]; rfl) (by rw [hf]; rfl))) (.eq rfl))⟩
theorem face_no (s : Slb) (n : Int) (hw : s.wf) (hl : s.lookE n ≠ 0) : SlabC 17 s [.int .i64 n] (.tup [.nils, .int .i64 (s.lookE n)]) s 0 := by
  refine ctrO_go 35 [(0, .op 0 0 0), (1, .int .i64 n)] [(0, slabS 1 s), (1, slabL s)] Try.func17 rfl rfl rfl (all_cons rfl (all_cons rfl all_nil)) (all_cons rfl (all_cons rfl all_nil)) ?_
  (repeat refine lwp_seq_k fun K hK => ?_)
  refine lw_region ?_
  refine RL.qa (oAssign rfl rfl ev_a) ?_
  refine RL.qa (oAssign rfl rfl ev_a) ?_
  refine RL.done ?_
  refine hK _ ?_
  clear hK K
  (repeat refine lwp_seq_k fun K hK => ?_)
  refine lw_region ?_
  refine RL.qa (oMove rfl rfl ev_a) ?_
  refine RL.qa (oMove rfl rfl ev_a) ?_
  refine RL.wsa (oSlab 0 1 rfl rfl ev_a evs_a (look_ctr s n hw.1) rfl rfl rfl (by rfl) rfl) ?_
  refine RL.qa (oAssign rfl rfl ev_a) ?_
  refine RL.done ?_
  refine hK _ ?_
  clear hK K
  (repeat refine lwp_seq_k fun K hK => ?_)
  refine lw_region ?_
  refine RL.qa (oMove rfl rfl ev_a) ?_
  refine RL.qa (oBin (v := .bool true) rfl rfl ev_a ev_a (by simp [binI, hl])) ?_
  refine RL.done ?_
  refine hK _ ?_
  clear hK K
  (repeat refine lwp_seq_k fun K hK => ?_)
  refine lw_condT (by (first | (apply ev_tmp; ((repeat (apply Lk.there; focus rfl)); exact Lk.here)) | exact ev_cint | exact ev_cbool | exact ev_cnilp | exact ev_cnils | exact ev_func | exact ev_cstr | exact ev_cnilf | exact ev_cnili)) ?_
  (repeat refine lwp_seq_k fun K hK => ?_)
  refine lw_region ?_
  refine RL.qa (oMove rfl rfl ev_a) ?_
  refine RL.qa (oAssign rfl rfl ev_a) ?_
  refine RL.qa (oAssign rfl rfl ev_a) ?_
  refine RL.done ?_
  refine hK _ ?_
  clear hK K
  exact lwp_ret ⟨.inr rfl, end_of rfl ⟨rfl, rfl, trivial⟩ (retO2 rfl (by ((repeat (apply Lk.there; focus rfl)); exact Lk.here)) (by ((repeat (apply Lk.there; focus rfl)); exact Lk.here)) [] (by simp) (.eq rfl) (.eq rfl))⟩
end Go.Proofs.Ythnjhhohfhnhgaa
