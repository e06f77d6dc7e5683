/- The slab's Wake. -/
import Derived.Test.YthnjhhohfhnhgaaSlabF
import Derived.Test.YthnjhhohfhnhgaaIter
import Derived.Test.YthnjhhohfhnhgaaPvL
namespace Go.Proofs.Ythnjhhohfhnhgaa
open Go Go.RowKit
set_option maxRecDepth 10000

abbrev Scr := Int × List UInt8
def scarPV (x : Scr) : List PV := [.int .i64 x.1, bsl x.2]
def scarsPV (l : List Scr) : List PV := l.flatMap scarPV
theorem scars_snap {H : Nat → Option Blk'} {vis : List Nat} : ∀ l : List Scr, SnapL H vis (scarsPV l) (scarsPV l)
  | [] => .nil
  | s :: l => by
    rw [scarsPV, List.flatMap_cons]
    exact SnapL.append ((inferInstance : ClL [.int .i64 s.1, bsl s.2]).out H vis) (scars_snap l)
instance scars_cl (l : List Scr) : ClL (scarsPV l) := ⟨fun _ _ => scars_snap l⟩
theorem length_scars (l : List Scr) : (scarsPV l).length = l.length * 2 := by
  induction l with
  | nil => rfl
  | cons s l ih => rw [scarsPV, List.flatMap_cons, List.length_append, ← scarsPV, ih]; simp [scarPV]; omega
/-- A scar more in a table of scars. -/
def ups (k : Int) (b : List UInt8) : List Scr → List Scr
  | [] => [(k, b)]
  | x :: l => if k = x.1 then (k, b) :: l else x :: ups k b l
def lookM (k : Int) : List Scr → Option (List UInt8)
  | [] => none
  | x :: l => if k = x.1 then some x.2 else lookM k l
def table (l : List Scr) : List Scr := l.foldl (fun m x => ups x.1 x.2 m) []
theorem mset_scars (k : Int) (b : List UInt8) (l : List Scr) : mset (.int .i64 k) (bsl b) (scarsPV l) = scarsPV (ups k b l) := by
  induction l with
  | nil => rfl
  | cons x l ih =>
    rw [scarsPV, List.flatMap_cons]
    show mset _ _ (.int .i64 x.1 :: bsl x.2 :: scarsPV l) = _
    simp only [mset, ups]
    by_cases h : k = x.1
    · rw [if_pos (by simp [keq, h]), if_pos h]
      simp [scarsPV, scarPV]
    · rw [if_neg (by simp [keq, h]), if_neg h, ih]
      simp [scarsPV, scarPV]
theorem mget_scars (k : Int) (l : List Scr) : mget (.int .i64 k) (scarsPV l) = (lookM k l).map bsl := by
  induction l with
  | nil => rfl
  | cons x l ih =>
    rw [scarsPV, List.flatMap_cons]
    show mget _ (.int .i64 x.1 :: bsl x.2 :: scarsPV l) = _
    simp only [mget, lookM]
    by_cases h : k = x.1
    · rw [if_pos (by simp [keq, h]), if_pos h]
      rfl
    · rw [if_neg (by simp [keq, h]), if_neg h]
      exact ih
theorem keys_scars (l : List Scr) : keysOk (.int .i64) (scarsPV l) = true := by
  induction l with
  | nil => rfl
  | cons x l ih =>
    rw [scarsPV, List.flatMap_cons]
    show keysOk _ (.int .i64 x.1 :: bsl x.2 :: scarsPV l) = true
    simp [keysOk, kKind, ih]
theorem getD_scars (l : List Scr) (i : Nat) (h : i < l.length) : (scarsPV l).getD (2 * i) .junk = .int .i64 l[i].1 := by
  induction l generalizing i with
  | nil => simp at h
  | cons x l ih =>
    rw [scarsPV, List.flatMap_cons, ← scarsPV]
    cases i with
    | zero => rfl
    | succ i =>
      rw [show 2 * (i + 1) = (scarPV x).length + 2 * i by simp [scarPV]; omega]
      have := ih i (by simpa using h)
      rw [List.getD_eq_getElem?_getD] at this ⊢
      rw [List.getElem?_append_right (by omega)]
      simpa using this
theorem drop_scars (l : List Scr) (i : Nat) : (scarsPV l).drop (i * 2) = scarsPV (l.drop i) := by
  induction l generalizing i with
  | nil => simp [scarsPV]
  | cons s l ih =>
    cases i with
    | zero => simp
    | succ i =>
      rw [scarsPV, List.flatMap_cons, show (i + 1) * 2 = (scarPV s).length + i * 2 by simp [scarPV]; omega, List.drop_append, List.drop_succ_cons, ← ih]
      simp [scarPV, scarsPV]
theorem at_scars (l : List Scr) (i : Nat) (h : i < l.length) : (scarsPV l).drop (i * 2) = .int .i64 l[i].1 :: bsl l[i].2 :: scarsPV (l.drop (i + 1)) := by
  rw [drop_scars, List.drop_eq_getElem_cons h, scarsPV, List.flatMap_cons]
  rfl
/-- Bytes, cut or filled up to a sector. -/
def pad (b : List UInt8) : List UInt8 := b.take 64 ++ List.replicate (64 - b.length) 0
theorem pad_len (b : List UInt8) : (pad b).length = 64 := by simp [pad]; omega
theorem copy_pad (b : List UInt8) : setAt (pb noughts) 0 ((pb b).take (min b.length 64)) = pb (pad b) := by
  apply List.ext_getElem?
  intro i
  have hl : ((pb b).take (min b.length 64)).length = min b.length 64 := by rw [List.length_take, length_pb]; omega
  rw [get_setAt _ _ _ _ (by rw [hl, length_pb]; simp [noughts]; omega), hl]
  unfold pad
  rw [show pb (b.take 64 ++ List.replicate (64 - b.length) 0) = (pb b).take 64 ++ pb (List.replicate (64 - b.length) 0) by simp [pb, List.map_take]]
  have hl2 : ((pb b).take 64).length = min b.length 64 := by rw [List.length_take, length_pb]; omega
  by_cases h : i < min b.length 64
  · rw [if_pos ⟨by omega, by omega⟩, List.getElem?_append_left (by omega), Nat.sub_zero, List.getElem?_take, if_pos h, List.getElem?_take, if_pos (by omega)]
  · rw [if_neg (by omega), List.getElem?_append_right (by omega), hl2]
    simp only [pb, noughts, List.map_replicate, List.getElem?_replicate]
    by_cases h2 : i < 64
    · rw [if_pos h2, if_pos (by omega)]
    · rw [if_neg h2, if_neg (by omega)]
/-- One key's scar. -/
def Slb.wake1 (s : Slb) (M : List Scr) (k : Int) : Slb :=
  if 0 ≤ k ∧ k < s.l.length ∧ (s.l.getD k.toNat secD).ink.isSome = true then ⟨s.l.set k.toNat ⟨some (pad ((lookM k M).getD [])), (s.l.getD k.toNat secD).ink⟩, s.endless, s.supply, s.strokes⟩ else s
def Slb.wakes (s : Slb) (M : List Scr) (pre : List Nat) : Slb := pre.foldl (fun s i => s.wake1 M (M.getD i (0, [])).1) s
def Slb.clear (s : Slb) (j : Nat) : Slb := ⟨(s.l.take j).map (fun x => ⟨x.burnt, none⟩) ++ s.l.drop j, s.endless, s.supply, s.strokes⟩
theorem keys_ctr (xs : List PV) [ClL xs] : Ctr Try.prog 42 [.rm xs] (.fn (.func 55) [] [.rp [.rm xs]]) := by
  refine ctr_go 4 [(0, .rm xs)] Try.func42 rfl rfl rfl (all_cons rfl all_nil) ?_
  (repeat refine lwp_seq_k fun K hK => ?_)
  refine lw_region ?_
  refine RL.wa (oBox 1 (Nat.succ_pos 0) rfl rfl ev_a rfl rfl) ?_
  refine RL.qa (oAssign rfl rfl ev_a) ?_
  refine RL.done ?_
  refine hK _ ?_
  clear hK K
  (repeat refine lwp_seq_k fun K hK => ?_)
  refine lw_region ?_
  refine RL.qa (oMakeFunc rfl rfl evs_a evs_a) ?_
  refine RL.qa (oAssign rfl rfl ev_a) ?_
  refine RL.done ?_
  refine hK _ ?_
  clear hK K
  refine lwp_ret ⟨.inr rfl, .fn (.func 55) [] [.op 0 0 0], [0], .one rfl (res_tmp (by ((repeat (apply Lk.there; focus rfl)); exact Lk.here))), snap_fn .nil (.cons (snap_op (blk := ⟨0, 1, 0, [.rm xs]⟩) (by simp) (by rfl) rfl ((inferInstance : ClL [.rm xs]).out _ _)) .nil)⟩
def Slb.wake (s : Slb) (M : List Scr) : Slb := ⟨s.l.mapIdx fun i x => ⟨if x.ink.isSome then (match lookM i M with | some b => some (pad b) | none => x.burnt) else x.burnt, none⟩, true, 0, s.strokes⟩
theorem wake1_len (s : Slb) (M : List Scr) (k : Int) : (s.wake1 M k).l.length = s.l.length := by
  unfold Slb.wake1; split <;> simp
theorem wakes_snoc (s : Slb) (M : List Scr) (pre : List Nat) (i : Nat) : s.wakes M (pre ++ [i]) = (s.wakes M pre).wake1 M (M.getD i (0, [])).1 := by simp [Slb.wakes]
theorem wakes_len (s : Slb) (M : List Scr) (pre : List Nat) : (s.wakes M pre).l.length = s.l.length := by
  induction pre generalizing s with
  | nil => rfl
  | cons i pre ih => exact (ih _).trans (wake1_len _ _ _)
theorem wake1_slabS (b : Nat) (s : Slb) (M : List Scr) (k : Int) : slabS b (s.wake1 M k) = slabS b s := by unfold Slb.wake1; split <;> simp [slabS]
theorem wakes_slabS (b : Nat) (s : Slb) (M : List Scr) (pre : List Nat) : slabS b (s.wakes M pre) = slabS b s := by
  induction pre generalizing s with
  | nil => rfl
  | cons i pre ih => exact (ih _).trans (wake1_slabS b s M _)
theorem wake1_at (s : Slb) (M : List Scr) (k : Int) (j : Nat) (x : Sec) (h : s.l[j]? = some x) : (s.wake1 M k).l[j]? = some (if x.ink.isSome && k == (j : Int) then ⟨some (pad ((lookM j M).getD [])), x.ink⟩ else x) := by
  have hj := (List.getElem?_eq_some_iff.1 h).1
  unfold Slb.wake1
  by_cases e : k = (j : Int)
  · subst e
    have hg : s.l.getD ((j : Int)).toNat secD = x := by rw [List.getD_eq_getElem?_getD, Int.toNat_natCast, h]; rfl
    rw [hg]
    by_cases hi : x.ink.isSome = true
    · rw [if_pos ⟨by omega, by omega, hi⟩]
      simp [hi, hj]
    · rw [if_neg (by simp [hi])]
      simp [hi, h]
  · have e' : (k == (j : Int)) = false := by simpa using e
    simp only [e', Bool.and_false, Bool.false_eq_true, if_false]
    split
    · rename_i h2
      show (s.l.set _ _)[j]? = _
      rw [List.getElem?_set_ne (by omega)]
      exact h
    · exact h
theorem wakes_at (M : List Scr) (pre : List Nat) (s : Slb) (j : Nat) (x : Sec) (h : s.l[j]? = some x) : (s.wakes M pre).l[j]? = some (if x.ink.isSome && pre.any (fun i => (M.getD i (0, [])).1 == (j : Int)) then ⟨some (pad ((lookM j M).getD [])), x.ink⟩ else x) := by
  induction pre generalizing s x with
  | nil => simp [Slb.wakes, h]
  | cons i pre ih =>
    have h1 := wake1_at s M (M.getD i (0, [])).1 j x h
    have h2 := ih _ _ h1
    rw [show s.wakes M (i :: pre) = (s.wake1 M (M.getD i (0, [])).1).wakes M pre from rfl, h2]
    rw [List.any_cons]
    generalize ((M.getD i (0, [])).1 == (j : Int)) = p
    generalize pre.any (fun i => (M.getD i (0, [])).1 == (j : Int)) = r
    cases hx : x.ink.isSome <;> cases p <;> cases r <;> simp [hx]
theorem look_some {M : List Scr} {k : Int} {b : List UInt8} (h : lookM k M = some b) : ∃ i, i < M.length ∧ (M.getD i (0, [])).1 = k := by
  induction M with
  | nil => cases h
  | cons x l ih =>
    simp only [lookM] at h
    by_cases e : k = x.1
    · exact ⟨0, by simp, e.symm⟩
    · rw [if_neg e] at h
      obtain ⟨i, h1, h2⟩ := ih h
      exact ⟨i + 1, by simpa using h1, by simpa using h2⟩
theorem look_none {M : List Scr} {k : Int} (h : lookM k M = none) : ∀ i, i < M.length → (M.getD i (0, [])).1 ≠ k := by
  induction M with
  | nil => intro i hi; simp at hi
  | cons x l ih =>
    simp only [lookM] at h
    by_cases e : k = x.1
    · rw [if_pos e] at h; cases h
    · rw [if_neg e] at h
      intro i hi
      cases i with
      | zero => simpa using fun h => e h.symm
      | succ i => simpa using ih h i (by simpa using hi)
theorem woken_eq (s : Slb) (M : List Scr) (pre : List Nat) (hall : ∀ i, i < M.length → i ∈ pre) (hin : ∀ i ∈ pre, i < M.length) : (⟨((s.wakes M pre).clear s.l.length).l, true, 0, s.strokes⟩ : Slb) = s.wake M := by
  unfold Slb.wake
  congr 1
  apply List.ext_getElem?
  intro j
  have hl := wakes_len s M pre
  simp only [Slb.clear, ← hl, List.take_length, List.drop_length, List.append_nil, List.getElem?_map, List.getElem?_mapIdx]
  cases hx : s.l[j]? with
  | none =>
    have : (s.wakes M pre).l[j]? = none := by rw [List.getElem?_eq_none_iff, hl]; exact List.getElem?_eq_none_iff.1 hx
    rw [this]; rfl
  | some x =>
    rw [wakes_at M pre s j x hx]
    simp only [Option.map_some]
    congr 1
    cases hi : x.ink.isSome with
    | false => simp
    | true =>
      simp only [Bool.true_and, if_true]
      cases hlk : lookM (j : Int) M with
      | none =>
        have : pre.any (fun i => (M.getD i (0, [])).1 == (j : Int)) = false := by
          rw [List.any_eq_false]
          intro i hip
          simpa using look_none hlk i (hin i hip)
        rw [this]; simp
      | some b =>
        obtain ⟨i, h1, h2⟩ := look_some hlk
        have : pre.any (fun i => (M.getD i (0, [])).1 == (j : Int)) = true := List.any_eq_true.2 ⟨i, hall i h1, by simpa using h2⟩
        rw [this]; simp
theorem table_snoc (l : List Scr) (x : Scr) : table (l ++ [x]) = ups x.1 x.2 (table l) := by simp [table]
theorem table_take (l : List Scr) (j : Nat) (h : j < l.length) : table (l.take (j + 1)) = ups l[j].1 l[j].2 (table (l.take j)) := by
  rw [List.take_succ_eq_append_getElem h, table_snoc]
theorem ups_len (k : Int) (b : List UInt8) (l : List Scr) : (ups k b l).length ≤ l.length + 1 := by
  induction l with
  | nil => simp [ups]
  | cons x l ih => simp only [ups]; split <;> simp; omega
theorem look_in {M : List Scr} {k : Int} {b : List UInt8} (h : lookM k M = some b) : ∃ x ∈ M, x.2 = b := by
  induction M with
  | nil => cases h
  | cons x l ih =>
    simp only [lookM] at h
    by_cases e : k = x.1
    · rw [if_pos e] at h; injection h with h; exact ⟨x, by simp, h⟩
    · rw [if_neg e] at h
      obtain ⟨y, h1, h2⟩ := ih h
      exact ⟨y, by simp [h1], h2⟩
theorem ups_in {k : Int} {b : List UInt8} {l : List Scr} {x : Scr} (h : x ∈ ups k b l) : x ∈ l ∨ x = (k, b) := by
  induction l with
  | nil => simp [ups] at h; exact .inr h
  | cons y l ih =>
    simp only [ups] at h
    split at h
    · rcases List.mem_cons.1 h with h | h
      · exact .inr h
      · exact .inl (by simp [h])
    · rcases List.mem_cons.1 h with h | h
      · exact .inl (by simp [h])
      · rcases ih h with h | h
        · exact .inl (by simp [h])
        · exact .inr h
theorem at_slab1 {HL : List (Nat × Blk')} {s : Slb} {i b off : Nat} (hb : hget HL b = some (slabL s)) (h : i < s.l.length) (ho : off = i * 2 + 1) : cellsAt (hget HL) (.op b 0 off) = some (ofO s.l[i].ink :: (s.l.drop (i + 1)).flatMap secPV, [b]) := by
  subst ho
  simp only [cellsAt, hb]
  rw [if_pos (show 0 = (slabL s).gen from rfl), show (slabL s).cells = s.l.flatMap secPV from rfl, ← List.drop_drop, at_secs s.l i h]
  rfl
theorem wake1_wf {s : Slb} (h : s.wf) (M : List Scr) (k : Int) : (s.wake1 M k).wf := by
  unfold Slb.wake1
  split
  · rename_i hk
    refine ⟨by simpa using h.1, fun x hx => ?_⟩
    rcases List.mem_or_eq_of_mem_set hx with hx | rfl
    · exact h.2 x hx
    · refine ⟨fun b hb => by injection hb with hb; rw [← hb]; exact pad_len _, fun b hb => ?_⟩
      have hj : k.toNat < s.l.length := by omega
      simp only [List.getD_eq_getElem?_getD, List.getElem?_eq_getElem hj, Option.getD_some] at hb
      exact (h.2 _ (List.getElem_mem hj)).2 b hb
  · exact h
theorem wakes_wf {s : Slb} (h : s.wf) (M : List Scr) (pre : List Nat) : (s.wakes M pre).wf := by
  induction pre generalizing s with
  | nil => exact h
  | cons i pre ih => exact ih (wake1_wf h M _)
theorem look_idx {M : List Scr} {i : Nat} (h : i < M.length) : ∃ b, lookM M[i].1 M = some b := by
  cases hq : lookM M[i].1 M with
  | some b => exact ⟨b, rfl⟩
  | none =>
    have := look_none hq i h
    rw [List.getD_eq_getElem?_getD, List.getElem?_eq_getElem h] at this
    exact absurd rfl this
theorem clear_succ (t : Slb) (j : Nat) (h : j < t.l.length) : ((t.clear j).l.flatMap secPV).set (j * 2 + 1) .nils = (t.clear (j + 1)).l.flatMap secPV := by
  have hl : ((t.l.take j).map (fun x => (⟨x.burnt, none⟩ : Sec))).length = j := by simp; omega
  have hlen : (t.clear j).l.length = t.l.length := by simp [Slb.clear]; omega
  have := set_ink (t.clear j).l j (by omega) none
  refine this.trans ?_
  congr 1
  have e : (t.clear j).l = (t.l.take j).map (fun x => (⟨x.burnt, none⟩ : Sec)) ++ (t.l[j] :: t.l.drop (j + 1)) := by
    unfold Slb.clear
    rw [List.drop_eq_getElem_cons h]
  have e1 : (t.clear j).l[j]? = some t.l[j] := by
    rw [e, List.getElem?_append_right (by omega), hl, Nat.sub_self]
    rfl
  have e2 : (t.clear j).l[j]'(by omega) = t.l[j] := by
    rw [List.getElem?_eq_getElem (by omega)] at e1
    injection e1
  rw [e2]
  show (t.clear j).l.set j _ = (t.clear (j + 1)).l
  rw [e, List.set_append_right _ _ (by omega), hl, Nat.sub_self, List.set_cons_zero]
  unfold Slb.clear
  rw [List.take_succ_eq_append_getElem h, List.map_append]
  simp only [List.map_cons, List.map_nil, List.append_assoc, List.cons_append, List.nil_append]
theorem clear_len (t : Slb) (j : Nat) (h : j ≤ t.l.length) : (t.clear j).l.length = t.l.length := by simp [Slb.clear]; omega
theorem clear_slabS (b : Nat) (t : Slb) (j : Nat) (h : j ≤ t.l.length) : slabS b (t.clear j) = slabS b t := by
  have := clear_len t j h
  unfold slabS
  rw [this]
  rfl
theorem wake_ctr (s : Slb) (hw : s.wf) (sc : List Scr) (hsc : sc.length ≤ 9223372036854775807) : SlabC 16 s [.ro false sc.length (scarsPV sc)] (.tup []) (s.wake (table sc)) 3 := by
  refine ctrO_go 86 [(0, .op 0 0 0), (1, .ro false sc.length (scarsPV sc))] [(0, slabS 1 s), (1, slabL s)] Try.func16 rfl rfl rfl (all_cons rfl (all_cons rfl all_nil)) (all_cons rfl (all_cons rfl all_nil)) ?_
  have h63 := hw.1
  (repeat refine lwp_seq_k fun K hK => ?_)
  refine lw_region ?_
  refine RL.wa (oBox 1 (Nat.succ_pos 0) rfl rfl ev_a rfl rfl) ?_
  refine RL.done ?_
  refine hK _ ?_
  clear hK K
  (repeat refine lwp_seq_k fun K hK => ?_)
  refine lw_region ?_
  refine RL.qa (oLoad rfl rfl ev_a (by rfl) (by rfl)) ?_
  refine RL.qa (oEqNil (neg := false) rfl rfl ev_a rfl (by rfl) rfl (by rfl)) ?_
  refine RL.done ?_
  refine hK _ ?_
  clear hK K
  (repeat refine lwp_seq_k fun K hK => ?_)
  refine lw_condF (by (first | (apply ev_tmp; ((repeat (apply Lk.there; focus rfl)); exact Lk.here)) | exact ev_cint | exact ev_cbool | exact ev_cnilp | exact ev_cnils | exact ev_func | exact ev_cstr | exact ev_cnilf | exact ev_cnili)) ?_
  refine lwp_skip (hK _ ?_)
  clear hK K
  (repeat refine lwp_seq_k fun K hK => ?_)
  refine lw_region ?_
  refine RL.wa (oMakeMap rfl rfl) ?_
  refine RL.wa (oAlloc 1 (Nat.succ_pos 0) rfl rfl (by rfl)) ?_
  refine RL.w0a (oStore rfl rfl ev_a (by rfl) (by rfl) ev_a (by rfl) (by simp [cellsPV, leaf]) (by rfl) (Nat.zero_le _) (by first | exact Nat.le_of_ble_eq_true rfl | (simp [length_setAt, length_secs, slabS, slabL]; first | done | omega)) (by rfl)) ?_
  refine RL.done ?_
  refine hK _ ?_
  clear hK K
  (repeat refine lwp_seq_k fun K hK => ?_)
  refine lw_region ?_
  refine RL.qa (oMove rfl rfl ev_a) ?_
  first | (refine RL.qa (oLen rfl rfl rfl ev_a (by rfl)) ?_) | (refine RL.qa (oLenStr rfl rfl rfl ev_a) ?_) | (refine RL.qa (oLenArr rfl rfl rfl) ?_)
  refine RL.qa (oMove rfl rfl ev_a) ?_
  refine RL.done ?_
  refine hK _ ?_
  clear hK K
  (repeat refine lwp_seq_k fun K hK => ?_)
  refine lwp_block ?_
  refine lwp_loopR (fun q st => ∃ (j : Nat), q = sc.length - j ∧ j ≤ sc.length ∧ st = St' [(2, .op 2 0 0), (4, .op 4 0 0), (13, .ro false sc.length (scarsPV sc)), (14, .int .i64 sc.length), (15, .int .i64 j)] [(0, slabS 1 s), (1, slabL s), (2, ⟨0, 1, 0, [.op 0 0 0]⟩), (3, ⟨0, 0, 0, scarsPV (table (sc.take j))⟩), (4, ⟨0, 1, 0, [.mp 3 0]⟩)] 5) sc.length _
    (lessR_of [0, 1, 2, 3, 4] [] rfl (by decide) (fun m hm => by match m, hm with | 0, _ => rfl | 1, _ => rfl) (by simp) (all_cons ⟨_, by ((repeat (apply Lk.there; focus rfl)); exact Lk.here), (by first | exact .eq rfl | exact .opI rfl | exact .osI rfl | exact .mpI rfl | exact .cv | exact .wk (.eq rfl) (Wk.junk _))⟩ (all_cons ⟨_, by ((repeat (apply Lk.there; focus rfl)); exact Lk.here), (by first | exact .eq rfl | exact .opI rfl | exact .osI rfl | exact .mpI rfl | exact .cv | exact .wk (.eq rfl) (Wk.junk _))⟩ (all_cons ⟨_, by ((repeat (apply Lk.there; focus rfl)); exact Lk.here), (by first | exact .eq rfl | exact .opI rfl | exact .osI rfl | exact .mpI rfl | exact .cv | exact .wk (.eq rfl) (Wk.junk _))⟩ (all_cons ⟨_, by ((repeat (apply Lk.there; focus rfl)); exact Lk.here), (by first | exact .eq rfl | exact .opI rfl | exact .osI rfl | exact .mpI rfl | exact .cv | exact .wk (.eq rfl) (Wk.junk _))⟩ (all_cons ⟨_, by ((repeat (apply Lk.there; focus rfl)); exact Lk.here), (by first | exact .eq rfl | exact .opI rfl | exact .osI rfl | exact .mpI rfl | exact .cv | exact .wk (.eq rfl) (Wk.junk _))⟩ all_nil))))) (all_cons ⟨_, _, by rfl, by rfl, (by first | exact slabS_tr rfl | exact slabL_tr | exact ⟨rfl, rfl, rfl, .cv⟩ | (refine ⟨rfl, rfl, rfl, ?_⟩; (repeat (refine TrL.cons (by first | exact .eq rfl | exact .opI rfl | exact .osI rfl | exact .mpI rfl | exact .cv | exact .wk (.eq rfl) (Wk.junk _)) ?_)); exact TrL.nil))⟩ (all_cons ⟨_, _, by rfl, by rfl, (by first | exact slabS_tr rfl | exact slabL_tr | exact ⟨rfl, rfl, rfl, .cv⟩ | (refine ⟨rfl, rfl, rfl, ?_⟩; (repeat (refine TrL.cons (by first | exact .eq rfl | exact .opI rfl | exact .osI rfl | exact .mpI rfl | exact .cv | exact .wk (.eq rfl) (Wk.junk _)) ?_)); exact TrL.nil))⟩ (all_cons ⟨_, _, by rfl, by rfl, (by first | exact slabS_tr rfl | exact slabL_tr | exact ⟨rfl, rfl, rfl, .cv⟩ | (refine ⟨rfl, rfl, rfl, ?_⟩; (repeat (refine TrL.cons (by first | exact .eq rfl | exact .opI rfl | exact .osI rfl | exact .mpI rfl | exact .cv | exact .wk (.eq rfl) (Wk.junk _)) ?_)); exact TrL.nil))⟩ (all_cons ⟨_, _, by rfl, by rfl, (by first | exact slabS_tr rfl | exact slabL_tr | exact ⟨rfl, rfl, rfl, .cv⟩ | (refine ⟨rfl, rfl, rfl, ?_⟩; (repeat (refine TrL.cons (by first | exact .eq rfl | exact .opI rfl | exact .osI rfl | exact .mpI rfl | exact .cv | exact .wk (.eq rfl) (Wk.junk _)) ?_)); exact TrL.nil))⟩ (all_cons ⟨_, _, by rfl, by rfl, (by first | exact slabS_tr rfl | exact slabL_tr | exact ⟨rfl, rfl, rfl, .cv⟩ | (refine ⟨rfl, rfl, rfl, ?_⟩; (repeat (refine TrL.cons (by first | exact .eq rfl | exact .opI rfl | exact .osI rfl | exact .mpI rfl | exact .cv | exact .wk (.eq rfl) (Wk.junk _)) ?_)); exact TrL.nil))⟩ all_nil)))))) ⟨0, rfl, Nat.zero_le _, rfl⟩ ?_
  rintro q _ ⟨j, rfl, hj, rfl⟩
  by_cases hlt : j < sc.length
  · (repeat refine lwp_seq_k fun K hK => ?_)
    refine lw_region ?_
    refine RL.qa (oBin (v := .bool true) rfl rfl ev_a ev_a (by simp [binI]; omega)) ?_
    refine RL.done ?_
    refine hK _ ?_
    clear hK K
    (repeat refine lwp_seq_k fun K hK => ?_)
    refine lw_condT (by (first | (apply ev_tmp; ((repeat (apply Lk.there; focus rfl)); exact Lk.here)) | exact ev_cint | exact ev_cbool | exact ev_cnilp | exact ev_cnils | exact ev_func | exact ev_cstr | exact ev_cnilf | exact ev_cnili)) ?_
    refine lwp_skip (hK _ ?_)
    clear hK K
    (repeat refine lwp_seq_k fun K hK => ?_)
    refine lwp_block ?_
    (repeat refine lwp_seq_k fun K hK => ?_)
    refine lw_region ?_
    refine RL.qa (oIndexRo rfl rfl ev_a ev_a (by omega) (by omega) (by decide) (length_scars sc)) ?_
    refine RL.qa (oLoadA (ys := [.int .i64 sc[j].1, bsl sc[j].2]) rfl rfl ev_a (by rfl) (by rfl) (by rw [Int.toNat_natCast, at_scars sc j hlt]; simp) (by rw [Int.toNat_natCast, at_scars sc j hlt]; rfl)) ?_
    refine RL.wa (oAlloc 1 (Nat.succ_pos 0) rfl rfl (by rfl)) ?_
    refine RL.w0a (oStore rfl rfl ev_a (by rfl) (by rfl) ev_a (by rfl) (by simp [cellsPV, leaf]) (by rfl) (Nat.zero_le _) (by first | exact Nat.le_of_ble_eq_true rfl | (simp [length_setAt, length_secs, slabS, slabL]; first | done | omega)) (by rfl)) ?_
    refine RL.done ?_
    refine hK _ ?_
    clear hK K
    (repeat refine lwp_seq_k fun K hK => ?_)
    refine lw_region ?_
    refine RL.qa (oLoad rfl rfl ev_a (by rfl) (by rfl)) ?_
    refine RL.qa (oFieldAddr rfl rfl ev_a (by decide) (by rfl)) ?_
    refine RL.qa (oLoad rfl rfl ev_a (by rfl) (by rfl)) ?_
    refine RL.qa (oFieldAddr rfl rfl ev_a (by decide) (by rfl)) ?_
    refine RL.qa (oLoad rfl rfl ev_a (by rfl) (by rfl)) ?_
    refine RL.w0a (oMapUpdate (i := 3) (g := 0) (cs := scarsPV (table (sc.take (j + 1)))) (.inl rfl) rfl ev_a (by rfl) rfl ev_a ev_a rfl (keys_scars _) (by rw [mset_scars, table_take sc j hlt])) ?_
    refine RL.done ?_
    refine hK _ ?_
    clear hK K
    (repeat refine lwp_seq_k fun K hK => ?_)
    refine lw_region ?_
    first | (refine RL.qa (oArith rfl rfl ev_a ev_a (by rfl) (by omega) (by omega)) ?_) | (refine RL.qa (oBin rfl rfl ev_a ev_a (by rfl)) ?_)
    refine RL.qa (oMove rfl rfl ev_a) ?_
    refine RL.done ?_
    exact ⟨_, _, (by omega : sc.length - (j + 1) < sc.length - j), (lessR_of [0, 1, 2, 3, 4] [] rfl (by decide) (fun m hm => by match m, hm with | 0, _ => rfl | 1, _ => rfl) (by simp) (all_cons ⟨_, by ((repeat (apply Lk.there; focus rfl)); exact Lk.here), (by first | exact .eq rfl | exact .opI rfl | exact .osI rfl | exact .mpI rfl | exact .cv | exact .wk (.eq rfl) (Wk.junk _))⟩ (all_cons ⟨_, by ((repeat (apply Lk.there; focus rfl)); exact Lk.here), (by first | exact .eq rfl | exact .opI rfl | exact .osI rfl | exact .mpI rfl | exact .cv | exact .wk (.eq rfl) (Wk.junk _))⟩ (all_cons ⟨_, by ((repeat (apply Lk.there; focus rfl)); exact Lk.here), (by first | exact .eq rfl | exact .opI rfl | exact .osI rfl | exact .mpI rfl | exact .cv | exact .wk (.eq rfl) (Wk.junk _))⟩ (all_cons ⟨_, by ((repeat (apply Lk.there; focus rfl)); exact Lk.here), (by first | exact .eq rfl | exact .opI rfl | exact .osI rfl | exact .mpI rfl | exact .cv | exact .wk (.eq rfl) (Wk.junk _))⟩ (all_cons ⟨_, by ((repeat (apply Lk.there; focus rfl)); exact Lk.here), (by first | exact .eq rfl | exact .opI rfl | exact .osI rfl | exact .mpI rfl | exact .cv | exact .wk (.eq rfl) (Wk.junk _))⟩ all_nil))))) (all_cons ⟨_, _, by rfl, by rfl, (by first | exact slabS_tr rfl | exact slabL_tr | exact ⟨rfl, rfl, rfl, .cv⟩ | (refine ⟨rfl, rfl, rfl, ?_⟩; (repeat (refine TrL.cons (by first | exact .eq rfl | exact .opI rfl | exact .osI rfl | exact .mpI rfl | exact .cv | exact .wk (.eq rfl) (Wk.junk _)) ?_)); exact TrL.nil))⟩ (all_cons ⟨_, _, by rfl, by rfl, (by first | exact slabS_tr rfl | exact slabL_tr | exact ⟨rfl, rfl, rfl, .cv⟩ | (refine ⟨rfl, rfl, rfl, ?_⟩; (repeat (refine TrL.cons (by first | exact .eq rfl | exact .opI rfl | exact .osI rfl | exact .mpI rfl | exact .cv | exact .wk (.eq rfl) (Wk.junk _)) ?_)); exact TrL.nil))⟩ (all_cons ⟨_, _, by rfl, by rfl, (by first | exact slabS_tr rfl | exact slabL_tr | exact ⟨rfl, rfl, rfl, .cv⟩ | (refine ⟨rfl, rfl, rfl, ?_⟩; (repeat (refine TrL.cons (by first | exact .eq rfl | exact .opI rfl | exact .osI rfl | exact .mpI rfl | exact .cv | exact .wk (.eq rfl) (Wk.junk _)) ?_)); exact TrL.nil))⟩ (all_cons ⟨_, _, by rfl, by rfl, (by first | exact slabS_tr rfl | exact slabL_tr | exact ⟨rfl, rfl, rfl, .cv⟩ | (refine ⟨rfl, rfl, rfl, ?_⟩; (repeat (refine TrL.cons (by first | exact .eq rfl | exact .opI rfl | exact .osI rfl | exact .mpI rfl | exact .cv | exact .wk (.eq rfl) (Wk.junk _)) ?_)); exact TrL.nil))⟩ (all_cons ⟨_, _, by rfl, by rfl, (by first | exact slabS_tr rfl | exact slabL_tr | exact ⟨rfl, rfl, rfl, .cv⟩ | (refine ⟨rfl, rfl, rfl, ?_⟩; (repeat (refine TrL.cons (by first | exact .eq rfl | exact .opI rfl | exact .osI rfl | exact .mpI rfl | exact .cv | exact .wk (.eq rfl) (Wk.junk _)) ?_)); exact TrL.nil))⟩ all_nil)))))), j + 1, rfl, by omega, rfl⟩
  · obtain rfl : j = sc.length := by omega
    (repeat refine lwp_seq_k fun K hK => ?_)
    refine lw_region ?_
    refine RL.qa (oBin (v := .bool false) rfl rfl ev_a ev_a (by simp [binI])) ?_
    refine RL.done ?_
    refine hK _ ?_
    clear hK K
    (repeat refine lwp_seq_k fun K hK => ?_)
    refine lw_condF (by (first | (apply ev_tmp; ((repeat (apply Lk.there; focus rfl)); exact Lk.here)) | exact ev_cint | exact ev_cbool | exact ev_cnilp | exact ev_cnils | exact ev_func | exact ev_cstr | exact ev_cnilf | exact ev_cnili)) ?_
    refine lwp_exit ?_
    simp only [thenL, inBlk, if_true]
    clear hK K
    refine hK _ ?_
    clear hK K
    rw [List.take_length]
    generalize table sc = M at *
    refine lwp_drop 3 ⟨0, 0, 0, scarsPV M⟩ (by rfl) rfl (TL' := [(2, .op 2 0 0), (4, .op 4 0 0)]) (HL' := [(0, slabS 1 (s)), (1, slabL (s)), (2, ⟨0, 1, 0, [.op 0 0 0]⟩), (4, ⟨0, 1, 0, [.rm (scarsPV M)]⟩)]) (all_cons ⟨_, by ((repeat (apply Lk.there; focus rfl)); exact Lk.here), .inl rfl⟩ (all_cons ⟨_, by ((repeat (apply Lk.there; focus rfl)); exact Lk.here), .inl rfl⟩ all_nil))
      (all_cons ⟨by simp, _, by rfl, rfl, rfl, rfl, .refl _⟩ (all_cons ⟨by simp, _, by rfl, rfl, rfl, rfl, .refl _⟩ (all_cons ⟨by simp, _, by rfl, rfl, rfl, rfl, .refl _⟩ (all_cons ⟨by simp, ⟨0, 1, 0, [.mp 3 0]⟩, by rfl, rfl, rfl, rfl, .inr ⟨rfl, rfl⟩, trivial⟩ all_nil)))) ?_
    (repeat refine lwp_seq_k fun K hK => ?_)
    refine lw_region ?_
    refine RL.qa (oLoad rfl rfl ev_a (by rfl) (by rfl)) ?_
    refine RL.qa (oCallC rfl rfl ev_a evs_a (keys_ctr (scarsPV M))) ?_
    refine RL.done ?_
    refine hK _ ?_
    clear hK K
    (repeat refine lwp_seq_k fun K hK => ?_)
    refine lwp_block ?_
    refine lwp_rangeFunc (by (first | (apply ev_tmp; ((repeat (apply Lk.there; focus rfl)); exact Lk.here)) | exact ev_cint | exact ev_cbool | exact ev_cnilp | exact ev_cnils | exact ev_func | exact ev_cstr | exact ev_cnilf | exact ev_cnili)) (keys_seq (scarsPV M)) (fun _ _ _ => rfl) (by decide) (fun pre H n => (∀ i ∈ pre, i < M.length) ∧ H = hget [(0, slabS 1 (s.wakes M pre)), (1, slabL (s.wakes M pre)), (2, ⟨0, 1, 0, [.op 0 0 0]⟩), (4, ⟨0, 1, 0, [.rm (scarsPV M)]⟩)] ∧ n = 5) ⟨by simp, rfl, rfl⟩ ?_ ?_
    · rintro pre i _ _ ⟨hi, hip⟩ ⟨hpre, rfl, rfl⟩ R K hK
      have hiM : i < M.length := by have := length_scars M; omega
      rw [getD_scars M i hiM]
      have hsn : s.wakes M (pre ++ [i]) = (s.wakes M pre).wake1 M M[i].1 := by rw [wakes_snoc, List.getD_eq_getElem?_getD, List.getElem?_eq_getElem hiM]; rfl
      have hlen := wakes_len s M pre
      have hwf := wakes_wf hw M pre
      obtain ⟨b2, hlk⟩ := look_idx hiM
      have hpre2 : ∀ q ∈ pre ++ [i], q < M.length := by
        intro q hq
        rcases List.mem_append.1 hq with h | h
        · exact hpre q h
        · rw [List.mem_singleton] at h; subst h; exact hiM
      generalize s.wakes M pre = t at *
      generalize M[i].1 = k at *
      refine (id ?_ : lwp R Try.prog 86 5 _ _ (St' ((27, .int .i64 k) :: [(26, .fn (.func 55) [] [.rp [.rm (scarsPV M)]]), (25, .rm (scarsPV M)), (2, .op 2 0 0), (4, .op 4 0 0)]) [(0, slabS 1 (t)), (1, slabL (t)), (2, ⟨0, 1, 0, [.op 0 0 0]⟩), (4, ⟨0, 1, 0, [.rm (scarsPV M)]⟩)] 5))
      (repeat refine lwp_seq_k fun K hK => ?_)
      refine lw_region ?_
      refine RL.qa (oAssign rfl rfl ev_a) ?_
      refine RL.done ?_
      refine hK _ ?_
      clear hK K
      refine lwp_block ?_
      by_cases h1 : 0 ≤ k
      · obtain ⟨kn, rfl⟩ : ∃ kn : Nat, k = kn := ⟨k.toNat, (Int.toNat_of_nonneg h1).symm⟩
        by_cases h2 : kn < t.l.length
        · have hmm := hwf.2 _ (List.getElem_mem h2)
          cases hx : t.l[kn].ink with
          | some b =>
            have hb64 := hmm.2 b hx
            have e1 : t.wake1 M kn = ⟨t.l.set kn ⟨some (pad b2), t.l[kn].ink⟩, t.endless, t.supply, t.strokes⟩ := by
              unfold Slb.wake1
              have hg : t.l.getD ((kn : Int)).toNat secD = t.l[kn] := by rw [List.getD_eq_getElem?_getD, Int.toNat_natCast, List.getElem?_eq_getElem h2]; rfl
              rw [hg, if_pos ⟨by omega, by omega, by rw [hx]; rfl⟩, hlk]
              rfl
            (repeat refine lwp_seq_k fun K hK => ?_)
            refine lw_region ?_
            refine RL.qa (oMove rfl rfl ev_a) ?_
            refine RL.qa (oBin (v := .bool true) rfl rfl ev_a ev_a (by simp [binI])) ?_
            refine RL.qa (oMove rfl rfl ev_a) ?_
            first | (refine RL.skipA ?_) | (refine RL.wantA ?_; refine RL.qa (oMove rfl rfl ev_a) ?_)
            first | (refine RL.skipA ?_) | (refine RL.wantA ?_; refine RL.qa (oLoad rfl rfl ev_a (by rfl) (by rfl)) ?_)
            first | (refine RL.skipA ?_) | (refine RL.wantA ?_; refine RL.qa (oNilCheck rfl rfl ev_a (by rfl) (by rfl)) ?_)
            first | (refine RL.skipA ?_) | (refine RL.wantA ?_; refine RL.qa (oFieldAddr rfl rfl ev_a (by decide) (by rfl)) ?_)
            first | (refine RL.skipA ?_) | (refine RL.wantA ?_; refine RL.qa (oLoad rfl rfl ev_a (by rfl) (by rfl)) ?_)
            first | (refine RL.skipA ?_) | (refine RL.wantA ?_; (first | (refine RL.qa (oLen rfl rfl rfl ev_a (by rfl)) ?_) | (refine RL.qa (oLenStr rfl rfl rfl ev_a) ?_) | (refine RL.qa (oLenArr rfl rfl rfl) ?_)))
            refine RL.wantA ?_
            refine RL.qa (oBin (v := .bool true) rfl rfl ev_a ev_a (by simp [binI, slabS]; omega)) ?_
            first | (refine RL.qa (oPickT rfl rfl ev_a ev_a) ?_) | (refine RL.qa (oPickF rfl rfl ev_a ev_a) ?_)
            refine RL.qa (oMove rfl rfl ev_a) ?_
            first | (refine RL.skipA ?_) | (refine RL.wantA ?_; refine RL.qa (oLoad rfl rfl ev_a (by rfl) (by rfl)) ?_)
            first | (refine RL.skipA ?_) | (refine RL.wantA ?_; refine RL.qa (oNilCheck rfl rfl ev_a (by rfl) (by rfl)) ?_)
            first | (refine RL.skipA ?_) | (refine RL.wantA ?_; refine RL.qa (oFieldAddr rfl rfl ev_a (by decide) (by rfl)) ?_)
            first | (refine RL.skipA ?_) | (refine RL.wantA ?_; refine RL.qa (oLoad rfl rfl ev_a (by rfl) (by rfl)) ?_)
            first | (refine RL.skipA ?_) | (refine RL.wantA ?_; refine RL.qa (oMove rfl rfl ev_a) ?_)
            refine RL.wantA ?_
            refine RL.qa (oIndexOs rfl rfl ev_a ev_a (by rfl) (by rfl) (by rfl) (by omega) (by omega) (by decide)) ?_
            first | (refine RL.skipA ?_) | (refine RL.wantA ?_; refine RL.qa (oFieldAddr rfl rfl ev_a (by decide) (by rfl)) ?_)
            refine RL.wantA ?_
            refine RL.qa (oLoad1 rfl rfl ev_a (at_slab1 (s := t) (i := kn) (by rfl) h2 (by omega)) (by rfl) (by rfl)) ?_
            rw [hx]
            refine RL.wantA ?_
            refine RL.qa (oEqNil (neg := true) rfl rfl ev_a rfl (nil_ro (by omega)) rfl (by rfl)) ?_
            first | (refine RL.qa (oPickT rfl rfl ev_a ev_a) ?_) | (refine RL.qa (oPickF rfl rfl ev_a ev_a) ?_)
            refine RL.done ?_
            refine hK _ ?_
            clear hK K
            (repeat refine lwp_seq_k fun K hK => ?_)
            refine lw_condT (by (first | (apply ev_tmp; ((repeat (apply Lk.there; focus rfl)); exact Lk.here)) | exact ev_cint | exact ev_cbool | exact ev_cnilp | exact ev_cnils | exact ev_func | exact ev_cstr | exact ev_cnilf | exact ev_cnili)) ?_
            (repeat refine lwp_seq_k fun K hK => ?_)
            refine lw_region ?_
            refine RL.wa (oMakeB (l := 64) rfl rfl ev_a ev_a (by omega)) ?_
            refine RL.qa (oAssign rfl rfl ev_a) ?_
            refine RL.done ?_
            refine hK _ ?_
            clear hK K
            (repeat refine lwp_seq_k fun K hK => ?_)
            refine lw_region ?_
            refine RL.qa (oMove rfl rfl ev_a) ?_
            refine RL.qa (oLoad rfl rfl ev_a (by rfl) (by rfl)) ?_
            refine RL.qa (oMove rfl rfl ev_a) ?_
            refine RL.qa (oLookup (ok := false) rfl rfl ev_a (by rfl) ev_a (by rfl) (keys_scars M) (zp := .nils) (by rfl) (v := bsl b2) (by rw [mget_scars, hlk]; rfl)) ?_
            refine RL.wa (oCopy rfl rfl rfl ev_a (by rfl) (by omega) (by decide) ev_a (by rfl) (by exact length_pb b2) (leaf_pb b2) (zs := pb (pad b2)) (copy_pad b2)) ?_
            refine RL.done ?_
            refine hK _ ?_
            clear hK K
            (repeat refine lwp_seq_k fun K hK => ?_)
            refine lw_region ?_
            refine RL.qa (oLoad rfl rfl ev_a (by rfl) (by rfl)) ?_
            refine RL.qa (oNilCheck rfl rfl ev_a (by rfl) (by rfl)) ?_
            refine RL.qa (oFieldAddr rfl rfl ev_a (by decide) (by rfl)) ?_
            refine RL.qa (oLoad rfl rfl ev_a (by rfl) (by rfl)) ?_
            refine RL.qa (oMove rfl rfl ev_a) ?_
            refine RL.qa (oMove rfl rfl ev_a) ?_
            refine RL.qa (oIndexOs rfl rfl ev_a ev_a (by rfl) (by rfl) (by rfl) (by omega) (by omega) (by decide)) ?_
            refine RL.qa (oFieldAddr rfl rfl ev_a (by decide) (by rfl)) ?_
            refine RL.w0a (oStore rfl rfl ev_a (by rfl) (by rfl) ev_a (by rfl) (by simp [cellsPV, leaf]) (by rfl) (Nat.zero_le _) (by show 0 + (kn : Int).toNat * 2 + 0 + 1 ≤ (t.l.flatMap secPV).length; rw [length_secs]; omega) (cs := (t.l.flatMap secPV).set (kn * 2) (.os 5 0 0 64)) (by simp [slabL, cellsPV, setAt])) ?_
            refine RL.done ?_
            refine ⟨St' [] [(0, slabS 1 (t.wake1 M kn)), (1, slabL (t.wake1 M kn)), (2, ⟨0, 1, 0, [.op 0 0 0]⟩), (4, ⟨0, 1, 0, [.rm (scarsPV M)]⟩)] 5, lessR_of [0, 1, 2, 3, 4] [5] rfl (by decide) (fun m hm => by match m, hm with | 0, _ => rfl | 1, _ => rfl | 2, _ => rfl | 3, _ => rfl | 4, _ => rfl) (by simp) all_nil
              (all_cons ⟨_, _, by rfl, by rfl, by rw [wake1_slabS]; exact slabS_tr rfl⟩ (all_cons ⟨_, ⟨0, 2, 0, (t.l.flatMap secPV).set (kn * 2) (.os 5 0 0 64)⟩, by rfl, by rfl, ⟨rfl, rfl, rfl, ?_⟩⟩ (all_cons ⟨_, _, by rfl, by rfl, ⟨rfl, rfl, rfl, .cons (.opI rfl) .nil⟩⟩ (all_cons ⟨_, _, by rfl, by rfl, ⟨rfl, rfl, rfl, .cv⟩⟩ all_nil)))), hpre2, by rw [hsn], rfl⟩
            show TrL _ _ _ ((t.l.flatMap secPV).set (kn * 2) (.os 5 0 0 64)) ((t.wake1 M kn).l.flatMap secPV)
            rw [e1]
            show TrL _ _ _ _ ((t.l.set kn ⟨some (pad b2), t.l[kn].ink⟩).flatMap secPV)
            rw [← set_burnt t.l kn h2, show ofO (some (pad b2)) = .ro false 64 (pb (pad b2)) by simp [ofO, pad_len]]
            exact TrL.set (.snap (flatMap_snap _)) (.snap (snap_osw (by rfl) (pad_len b2) rfl)) _
          | none =>
            have e1 : t.wake1 M kn = t := by
              unfold Slb.wake1
              have hg : t.l.getD ((kn : Int)).toNat secD = t.l[kn] := by rw [List.getD_eq_getElem?_getD, Int.toNat_natCast, List.getElem?_eq_getElem h2]; rfl
              rw [hg, if_neg (by rw [hx]; simp)]
            (repeat refine lwp_seq_k fun K hK => ?_)
            refine lw_region ?_
            refine RL.qa (oMove rfl rfl ev_a) ?_
            refine RL.qa (oBin (v := .bool true) rfl rfl ev_a ev_a (by simp [binI])) ?_
            refine RL.qa (oMove rfl rfl ev_a) ?_
            first | (refine RL.skipA ?_) | (refine RL.wantA ?_; refine RL.qa (oMove rfl rfl ev_a) ?_)
            first | (refine RL.skipA ?_) | (refine RL.wantA ?_; refine RL.qa (oLoad rfl rfl ev_a (by rfl) (by rfl)) ?_)
            first | (refine RL.skipA ?_) | (refine RL.wantA ?_; refine RL.qa (oNilCheck rfl rfl ev_a (by rfl) (by rfl)) ?_)
            first | (refine RL.skipA ?_) | (refine RL.wantA ?_; refine RL.qa (oFieldAddr rfl rfl ev_a (by decide) (by rfl)) ?_)
            first | (refine RL.skipA ?_) | (refine RL.wantA ?_; refine RL.qa (oLoad rfl rfl ev_a (by rfl) (by rfl)) ?_)
            first | (refine RL.skipA ?_) | (refine RL.wantA ?_; (first | (refine RL.qa (oLen rfl rfl rfl ev_a (by rfl)) ?_) | (refine RL.qa (oLenStr rfl rfl rfl ev_a) ?_) | (refine RL.qa (oLenArr rfl rfl rfl) ?_)))
            refine RL.wantA ?_
            refine RL.qa (oBin (v := .bool true) rfl rfl ev_a ev_a (by simp [binI, slabS]; omega)) ?_
            first | (refine RL.qa (oPickT rfl rfl ev_a ev_a) ?_) | (refine RL.qa (oPickF rfl rfl ev_a ev_a) ?_)
            refine RL.qa (oMove rfl rfl ev_a) ?_
            first | (refine RL.skipA ?_) | (refine RL.wantA ?_; refine RL.qa (oLoad rfl rfl ev_a (by rfl) (by rfl)) ?_)
            first | (refine RL.skipA ?_) | (refine RL.wantA ?_; refine RL.qa (oNilCheck rfl rfl ev_a (by rfl) (by rfl)) ?_)
            first | (refine RL.skipA ?_) | (refine RL.wantA ?_; refine RL.qa (oFieldAddr rfl rfl ev_a (by decide) (by rfl)) ?_)
            first | (refine RL.skipA ?_) | (refine RL.wantA ?_; refine RL.qa (oLoad rfl rfl ev_a (by rfl) (by rfl)) ?_)
            first | (refine RL.skipA ?_) | (refine RL.wantA ?_; refine RL.qa (oMove rfl rfl ev_a) ?_)
            refine RL.wantA ?_
            refine RL.qa (oIndexOs rfl rfl ev_a ev_a (by rfl) (by rfl) (by rfl) (by omega) (by omega) (by decide)) ?_
            first | (refine RL.skipA ?_) | (refine RL.wantA ?_; refine RL.qa (oFieldAddr rfl rfl ev_a (by decide) (by rfl)) ?_)
            refine RL.wantA ?_
            refine RL.qa (oLoad1 rfl rfl ev_a (at_slab1 (s := t) (i := kn) (by rfl) h2 (by omega)) (by rfl) (by rfl)) ?_
            rw [hx]
            refine RL.wantA ?_
            refine RL.qa (oEqNil (neg := true) rfl rfl ev_a rfl (by rfl) rfl (by rfl)) ?_
            first | (refine RL.qa (oPickT rfl rfl ev_a ev_a) ?_) | (refine RL.qa (oPickF rfl rfl ev_a ev_a) ?_)
            refine RL.done ?_
            refine hK _ ?_
            clear hK K
            (repeat refine lwp_seq_k fun K hK => ?_)
            refine lw_condF (by (first | (apply ev_tmp; ((repeat (apply Lk.there; focus rfl)); exact Lk.here)) | exact ev_cint | exact ev_cbool | exact ev_cnilp | exact ev_cnils | exact ev_func | exact ev_cstr | exact ev_cnilf | exact ev_cnili)) ?_
            refine lwp_skip ⟨St' [] [(0, slabS 1 (t)), (1, slabL (t)), (2, ⟨0, 1, 0, [.op 0 0 0]⟩), (4, ⟨0, 1, 0, [.rm (scarsPV M)]⟩)] 5, (lessR_of [0, 1, 2, 3, 4] [] rfl (by decide) (fun m hm => by match m, hm with | 0, _ => rfl | 1, _ => rfl | 2, _ => rfl | 3, _ => rfl | 4, _ => rfl) (by simp) all_nil (all_cons ⟨_, _, by rfl, by rfl, (by first | exact slabS_tr rfl | exact slabL_tr | exact ⟨rfl, rfl, rfl, .cv⟩ | (refine ⟨rfl, rfl, rfl, ?_⟩; (repeat (refine TrL.cons (by first | exact .eq rfl | exact .opI rfl | exact .osI rfl | exact .mpI rfl | exact .cv | exact .wk (.eq rfl) (Wk.junk _)) ?_)); exact TrL.nil))⟩ (all_cons ⟨_, _, by rfl, by rfl, (by first | exact slabS_tr rfl | exact slabL_tr | exact ⟨rfl, rfl, rfl, .cv⟩ | (refine ⟨rfl, rfl, rfl, ?_⟩; (repeat (refine TrL.cons (by first | exact .eq rfl | exact .opI rfl | exact .osI rfl | exact .mpI rfl | exact .cv | exact .wk (.eq rfl) (Wk.junk _)) ?_)); exact TrL.nil))⟩ (all_cons ⟨_, _, by rfl, by rfl, (by first | exact slabS_tr rfl | exact slabL_tr | exact ⟨rfl, rfl, rfl, .cv⟩ | (refine ⟨rfl, rfl, rfl, ?_⟩; (repeat (refine TrL.cons (by first | exact .eq rfl | exact .opI rfl | exact .osI rfl | exact .mpI rfl | exact .cv | exact .wk (.eq rfl) (Wk.junk _)) ?_)); exact TrL.nil))⟩ (all_cons ⟨_, _, by rfl, by rfl, (by first | exact slabS_tr rfl | exact slabL_tr | exact ⟨rfl, rfl, rfl, .cv⟩ | (refine ⟨rfl, rfl, rfl, ?_⟩; (repeat (refine TrL.cons (by first | exact .eq rfl | exact .opI rfl | exact .osI rfl | exact .mpI rfl | exact .cv | exact .wk (.eq rfl) (Wk.junk _)) ?_)); exact TrL.nil))⟩ all_nil))))), hpre2, by rw [hsn, e1], rfl⟩
        · have e1 : t.wake1 M kn = t := by unfold Slb.wake1; rw [if_neg (by omega)]
          (repeat refine lwp_seq_k fun K hK => ?_)
          refine lw_region ?_
          refine RL.qa (oMove rfl rfl ev_a) ?_
          refine RL.qa (oBin (v := .bool true) rfl rfl ev_a ev_a (by simp [binI])) ?_
          refine RL.qa (oMove rfl rfl ev_a) ?_
          first | (refine RL.skipA ?_) | (refine RL.wantA ?_; refine RL.qa (oMove rfl rfl ev_a) ?_)
          first | (refine RL.skipA ?_) | (refine RL.wantA ?_; refine RL.qa (oLoad rfl rfl ev_a (by rfl) (by rfl)) ?_)
          first | (refine RL.skipA ?_) | (refine RL.wantA ?_; refine RL.qa (oNilCheck rfl rfl ev_a (by rfl) (by rfl)) ?_)
          first | (refine RL.skipA ?_) | (refine RL.wantA ?_; refine RL.qa (oFieldAddr rfl rfl ev_a (by decide) (by rfl)) ?_)
          first | (refine RL.skipA ?_) | (refine RL.wantA ?_; refine RL.qa (oLoad rfl rfl ev_a (by rfl) (by rfl)) ?_)
          first | (refine RL.skipA ?_) | (refine RL.wantA ?_; (first | (refine RL.qa (oLen rfl rfl rfl ev_a (by rfl)) ?_) | (refine RL.qa (oLenStr rfl rfl rfl ev_a) ?_) | (refine RL.qa (oLenArr rfl rfl rfl) ?_)))
          refine RL.wantA ?_
          refine RL.qa (oBin (v := .bool false) rfl rfl ev_a ev_a (by simp [binI, slabS]; omega)) ?_
          first | (refine RL.qa (oPickT rfl rfl ev_a ev_a) ?_) | (refine RL.qa (oPickF rfl rfl ev_a ev_a) ?_)
          refine RL.qa (oMove rfl rfl ev_a) ?_
          first | (refine RL.skipA ?_) | (refine RL.wantA ?_; refine RL.qa (oLoad rfl rfl ev_a (by rfl) (by rfl)) ?_)
          first | (refine RL.skipA ?_) | (refine RL.wantA ?_; refine RL.qa (oNilCheck rfl rfl ev_a (by rfl) (by rfl)) ?_)
          first | (refine RL.skipA ?_) | (refine RL.wantA ?_; refine RL.qa (oFieldAddr rfl rfl ev_a (by decide) (by rfl)) ?_)
          first | (refine RL.skipA ?_) | (refine RL.wantA ?_; refine RL.qa (oLoad rfl rfl ev_a (by rfl) (by rfl)) ?_)
          first | (refine RL.skipA ?_) | (refine RL.wantA ?_; refine RL.qa (oMove rfl rfl ev_a) ?_)
          first | (refine RL.skipA ?_) | (refine RL.wantA ?_; (first | (refine RL.qa (oIndexRo rfl rfl ev_a ev_a (by omega) (by omega) (by decide) (by first | rfl | simp)) ?_) | (refine RL.qa (oIndexOs rfl rfl ev_a ev_a (by rfl) (by rfl) (by rfl) (by omega) (by omega) (by decide)) ?_) | (refine RL.qa (oIndexArr rfl rfl ev_a ev_a (by omega) (by omega) (by rfl)) ?_)))
          first | (refine RL.skipA ?_) | (refine RL.wantA ?_; refine RL.qa (oFieldAddr rfl rfl ev_a (by decide) (by rfl)) ?_)
          first | (refine RL.skipA ?_) | (refine RL.wantA ?_; refine RL.qa (oLoad rfl rfl ev_a (by rfl) (by rfl)) ?_)
          first | (refine RL.skipA ?_) | (refine RL.wantA ?_; refine RL.qa (oEqNil (neg := true) rfl rfl ev_a rfl (by rfl) rfl (by rfl)) ?_)
          first | (refine RL.qa (oPickT rfl rfl ev_a ev_a) ?_) | (refine RL.qa (oPickF rfl rfl ev_a ev_a) ?_)
          refine RL.done ?_
          refine hK _ ?_
          clear hK K
          (repeat refine lwp_seq_k fun K hK => ?_)
          refine lw_condF (by (first | (apply ev_tmp; ((repeat (apply Lk.there; focus rfl)); exact Lk.here)) | exact ev_cint | exact ev_cbool | exact ev_cnilp | exact ev_cnils | exact ev_func | exact ev_cstr | exact ev_cnilf | exact ev_cnili)) ?_
          refine lwp_skip ⟨St' [] [(0, slabS 1 (t)), (1, slabL (t)), (2, ⟨0, 1, 0, [.op 0 0 0]⟩), (4, ⟨0, 1, 0, [.rm (scarsPV M)]⟩)] 5, (lessR_of [0, 1, 2, 3, 4] [] rfl (by decide) (fun m hm => by match m, hm with | 0, _ => rfl | 1, _ => rfl | 2, _ => rfl | 3, _ => rfl | 4, _ => rfl) (by simp) all_nil (all_cons ⟨_, _, by rfl, by rfl, (by first | exact slabS_tr rfl | exact slabL_tr | exact ⟨rfl, rfl, rfl, .cv⟩ | (refine ⟨rfl, rfl, rfl, ?_⟩; (repeat (refine TrL.cons (by first | exact .eq rfl | exact .opI rfl | exact .osI rfl | exact .mpI rfl | exact .cv | exact .wk (.eq rfl) (Wk.junk _)) ?_)); exact TrL.nil))⟩ (all_cons ⟨_, _, by rfl, by rfl, (by first | exact slabS_tr rfl | exact slabL_tr | exact ⟨rfl, rfl, rfl, .cv⟩ | (refine ⟨rfl, rfl, rfl, ?_⟩; (repeat (refine TrL.cons (by first | exact .eq rfl | exact .opI rfl | exact .osI rfl | exact .mpI rfl | exact .cv | exact .wk (.eq rfl) (Wk.junk _)) ?_)); exact TrL.nil))⟩ (all_cons ⟨_, _, by rfl, by rfl, (by first | exact slabS_tr rfl | exact slabL_tr | exact ⟨rfl, rfl, rfl, .cv⟩ | (refine ⟨rfl, rfl, rfl, ?_⟩; (repeat (refine TrL.cons (by first | exact .eq rfl | exact .opI rfl | exact .osI rfl | exact .mpI rfl | exact .cv | exact .wk (.eq rfl) (Wk.junk _)) ?_)); exact TrL.nil))⟩ (all_cons ⟨_, _, by rfl, by rfl, (by first | exact slabS_tr rfl | exact slabL_tr | exact ⟨rfl, rfl, rfl, .cv⟩ | (refine ⟨rfl, rfl, rfl, ?_⟩; (repeat (refine TrL.cons (by first | exact .eq rfl | exact .opI rfl | exact .osI rfl | exact .mpI rfl | exact .cv | exact .wk (.eq rfl) (Wk.junk _)) ?_)); exact TrL.nil))⟩ all_nil))))), hpre2, by rw [hsn, e1], rfl⟩
      · have e1 : t.wake1 M k = t := by unfold Slb.wake1; rw [if_neg (by omega)]
        (repeat refine lwp_seq_k fun K hK => ?_)
        refine lw_region ?_
        refine RL.qa (oMove rfl rfl ev_a) ?_
        refine RL.qa (oBin (v := .bool false) rfl rfl ev_a ev_a (by simp [binI]; omega)) ?_
        refine RL.qa (oMove rfl rfl ev_a) ?_
        first | (refine RL.skipA ?_) | (refine RL.wantA ?_; refine RL.qa (oMove rfl rfl ev_a) ?_)
        first | (refine RL.skipA ?_) | (refine RL.wantA ?_; refine RL.qa (oLoad rfl rfl ev_a (by rfl) (by rfl)) ?_)
        first | (refine RL.skipA ?_) | (refine RL.wantA ?_; refine RL.qa (oNilCheck rfl rfl ev_a (by rfl) (by rfl)) ?_)
        first | (refine RL.skipA ?_) | (refine RL.wantA ?_; refine RL.qa (oFieldAddr rfl rfl ev_a (by decide) (by rfl)) ?_)
        first | (refine RL.skipA ?_) | (refine RL.wantA ?_; refine RL.qa (oLoad rfl rfl ev_a (by rfl) (by rfl)) ?_)
        first | (refine RL.skipA ?_) | (refine RL.wantA ?_; (first | (refine RL.qa (oLen rfl rfl rfl ev_a (by rfl)) ?_) | (refine RL.qa (oLenStr rfl rfl rfl ev_a) ?_) | (refine RL.qa (oLenArr rfl rfl rfl) ?_)))
        first | (refine RL.skipA ?_) | (refine RL.wantA ?_; refine RL.qa (oBin rfl rfl ev_a ev_a (by rfl)) ?_)
        first | (refine RL.qa (oPickT rfl rfl ev_a ev_a) ?_) | (refine RL.qa (oPickF rfl rfl ev_a ev_a) ?_)
        refine RL.qa (oMove rfl rfl ev_a) ?_
        first | (refine RL.skipA ?_) | (refine RL.wantA ?_; refine RL.qa (oLoad rfl rfl ev_a (by rfl) (by rfl)) ?_)
        first | (refine RL.skipA ?_) | (refine RL.wantA ?_; refine RL.qa (oNilCheck rfl rfl ev_a (by rfl) (by rfl)) ?_)
        first | (refine RL.skipA ?_) | (refine RL.wantA ?_; refine RL.qa (oFieldAddr rfl rfl ev_a (by decide) (by rfl)) ?_)
        first | (refine RL.skipA ?_) | (refine RL.wantA ?_; refine RL.qa (oLoad rfl rfl ev_a (by rfl) (by rfl)) ?_)
        first | (refine RL.skipA ?_) | (refine RL.wantA ?_; refine RL.qa (oMove rfl rfl ev_a) ?_)
        first | (refine RL.skipA ?_) | (refine RL.wantA ?_; (first | (refine RL.qa (oIndexRo rfl rfl ev_a ev_a (by omega) (by omega) (by decide) (by first | rfl | simp)) ?_) | (refine RL.qa (oIndexOs rfl rfl ev_a ev_a (by rfl) (by rfl) (by rfl) (by omega) (by omega) (by decide)) ?_) | (refine RL.qa (oIndexArr rfl rfl ev_a ev_a (by omega) (by omega) (by rfl)) ?_)))
        first | (refine RL.skipA ?_) | (refine RL.wantA ?_; refine RL.qa (oFieldAddr rfl rfl ev_a (by decide) (by rfl)) ?_)
        first | (refine RL.skipA ?_) | (refine RL.wantA ?_; refine RL.qa (oLoad rfl rfl ev_a (by rfl) (by rfl)) ?_)
        first | (refine RL.skipA ?_) | (refine RL.wantA ?_; refine RL.qa (oEqNil (neg := true) rfl rfl ev_a rfl (by rfl) rfl (by rfl)) ?_)
        first | (refine RL.qa (oPickT rfl rfl ev_a ev_a) ?_) | (refine RL.qa (oPickF rfl rfl ev_a ev_a) ?_)
        refine RL.done ?_
        refine hK _ ?_
        clear hK K
        (repeat refine lwp_seq_k fun K hK => ?_)
        refine lw_condF (by (first | (apply ev_tmp; ((repeat (apply Lk.there; focus rfl)); exact Lk.here)) | exact ev_cint | exact ev_cbool | exact ev_cnilp | exact ev_cnils | exact ev_func | exact ev_cstr | exact ev_cnilf | exact ev_cnili)) ?_
        refine lwp_skip ⟨St' [] [(0, slabS 1 (t)), (1, slabL (t)), (2, ⟨0, 1, 0, [.op 0 0 0]⟩), (4, ⟨0, 1, 0, [.rm (scarsPV M)]⟩)] 5, (lessR_of [0, 1, 2, 3, 4] [] rfl (by decide) (fun m hm => by match m, hm with | 0, _ => rfl | 1, _ => rfl | 2, _ => rfl | 3, _ => rfl | 4, _ => rfl) (by simp) all_nil (all_cons ⟨_, _, by rfl, by rfl, (by first | exact slabS_tr rfl | exact slabL_tr | exact ⟨rfl, rfl, rfl, .cv⟩ | (refine ⟨rfl, rfl, rfl, ?_⟩; (repeat (refine TrL.cons (by first | exact .eq rfl | exact .opI rfl | exact .osI rfl | exact .mpI rfl | exact .cv | exact .wk (.eq rfl) (Wk.junk _)) ?_)); exact TrL.nil))⟩ (all_cons ⟨_, _, by rfl, by rfl, (by first | exact slabS_tr rfl | exact slabL_tr | exact ⟨rfl, rfl, rfl, .cv⟩ | (refine ⟨rfl, rfl, rfl, ?_⟩; (repeat (refine TrL.cons (by first | exact .eq rfl | exact .opI rfl | exact .osI rfl | exact .mpI rfl | exact .cv | exact .wk (.eq rfl) (Wk.junk _)) ?_)); exact TrL.nil))⟩ (all_cons ⟨_, _, by rfl, by rfl, (by first | exact slabS_tr rfl | exact slabL_tr | exact ⟨rfl, rfl, rfl, .cv⟩ | (refine ⟨rfl, rfl, rfl, ?_⟩; (repeat (refine TrL.cons (by first | exact .eq rfl | exact .opI rfl | exact .osI rfl | exact .mpI rfl | exact .cv | exact .wk (.eq rfl) (Wk.junk _)) ?_)); exact TrL.nil))⟩ (all_cons ⟨_, _, by rfl, by rfl, (by first | exact slabS_tr rfl | exact slabL_tr | exact ⟨rfl, rfl, rfl, .cv⟩ | (refine ⟨rfl, rfl, rfl, ?_⟩; (repeat (refine TrL.cons (by first | exact .eq rfl | exact .opI rfl | exact .osI rfl | exact .mpI rfl | exact .cv | exact .wk (.eq rfl) (Wk.junk _)) ?_)); exact TrL.nil))⟩ all_nil))))), hpre2, by rw [hsn, e1], rfl⟩
    · rintro pre _ _ hno ⟨hpre, rfl, rfl⟩
      have hall : ∀ i, i < M.length → i ∈ pre := fun i hi => by
        have := hno i
        have h3 := length_scars M
        exact Classical.byContradiction fun h => this ⟨by omega, h⟩
      have hwok := woken_eq s M pre hall hpre
      have hlen := wakes_len s M pre
      rw [← hlen] at hwok
      have hstr : s.strokes = (s.wakes M pre).strokes := by
        have := wakes_slabS 0 s M pre
        unfold slabS at this
        injection this with _ _ _ h4
        injection h4 with _ h4
        injection h4 with _ h4
        injection h4 with _ h4
        injection h4 with h4 _
        injection h4 with _ h4
        exact h4.symm
      rw [hstr] at hwok
      clear hstr hno hall hpre
      have hwf := wakes_wf hw M pre
      generalize s.wakes M pre = t at *
      have h63t := hwf.1
      refine hK _ ?_
      clear hK K
      (repeat refine lwp_seq_k fun K hK => ?_)
      refine lw_region ?_
      refine RL.qa (oLoad rfl rfl ev_a (by rfl) (by rfl)) ?_
      refine RL.qa (oNilCheck rfl rfl ev_a (by rfl) (by rfl)) ?_
      refine RL.qa (oFieldAddr rfl rfl ev_a (by decide) (by rfl)) ?_
      refine RL.qa (oLoad rfl rfl ev_a (by rfl) (by rfl)) ?_
      first | (refine RL.qa (oLen rfl rfl rfl ev_a (by rfl)) ?_) | (refine RL.qa (oLenStr rfl rfl rfl ev_a) ?_) | (refine RL.qa (oLenArr rfl rfl rfl) ?_)
      refine RL.qa (oMove rfl rfl ev_a) ?_
      refine RL.done ?_
      refine hK _ ?_
      clear hK K
      (repeat refine lwp_seq_k fun K hK => ?_)
      refine lwp_block ?_
      refine lwp_loopR (fun q st => ∃ (j : Nat), q = t.l.length - j ∧ j ≤ t.l.length ∧ st = St' [(2, .op 2 0 0), (68, .int .i64 t.l.length), (69, .int .i64 j)] [(0, slabS 1 t), (1, slabL (t.clear j)), (2, ⟨0, 1, 0, [.op 0 0 0]⟩)] 5) t.l.length _
        (lessR_of [0, 1, 2, 3, 4] [] rfl (by decide) (fun m hm => by match m, hm with | 0, _ => rfl | 1, _ => rfl) (by simp) (all_cons ⟨_, by ((repeat (apply Lk.there; focus rfl)); exact Lk.here), (by first | exact .eq rfl | exact .opI rfl | exact .osI rfl | exact .mpI rfl | exact .cv | exact .wk (.eq rfl) (Wk.junk _))⟩ (all_cons ⟨_, by ((repeat (apply Lk.there; focus rfl)); exact Lk.here), (by first | exact .eq rfl | exact .opI rfl | exact .osI rfl | exact .mpI rfl | exact .cv | exact .wk (.eq rfl) (Wk.junk _))⟩ (all_cons ⟨_, by ((repeat (apply Lk.there; focus rfl)); exact Lk.here), (by first | exact .eq rfl | exact .opI rfl | exact .osI rfl | exact .mpI rfl | exact .cv | exact .wk (.eq rfl) (Wk.junk _))⟩ all_nil))) (all_cons ⟨_, _, by rfl, by rfl, (by first | exact slabS_tr rfl | exact slabL_tr | exact ⟨rfl, rfl, rfl, .cv⟩ | (refine ⟨rfl, rfl, rfl, ?_⟩; (repeat (refine TrL.cons (by first | exact .eq rfl | exact .opI rfl | exact .osI rfl | exact .mpI rfl | exact .cv | exact .wk (.eq rfl) (Wk.junk _)) ?_)); exact TrL.nil))⟩ (all_cons ⟨_, _, by rfl, by rfl, (by first | exact slabS_tr rfl | exact slabL_tr | exact ⟨rfl, rfl, rfl, .cv⟩ | (refine ⟨rfl, rfl, rfl, ?_⟩; (repeat (refine TrL.cons (by first | exact .eq rfl | exact .opI rfl | exact .osI rfl | exact .mpI rfl | exact .cv | exact .wk (.eq rfl) (Wk.junk _)) ?_)); exact TrL.nil))⟩ (all_cons ⟨_, _, by rfl, by rfl, (by first | exact slabS_tr rfl | exact slabL_tr | exact ⟨rfl, rfl, rfl, .cv⟩ | (refine ⟨rfl, rfl, rfl, ?_⟩; (repeat (refine TrL.cons (by first | exact .eq rfl | exact .opI rfl | exact .osI rfl | exact .mpI rfl | exact .cv | exact .wk (.eq rfl) (Wk.junk _)) ?_)); exact TrL.nil))⟩ all_nil)))) ⟨0, rfl, Nat.zero_le _, rfl⟩ ?_
      rintro q _ ⟨j, rfl, hj, rfl⟩
      by_cases hlt : j < t.l.length
      · (repeat refine lwp_seq_k fun K hK => ?_)
        refine lw_region ?_
        refine RL.qa (oBin (v := .bool true) rfl rfl ev_a ev_a (by simp [binI]; omega)) ?_
        refine RL.done ?_
        refine hK _ ?_
        clear hK K
        (repeat refine lwp_seq_k fun K hK => ?_)
        refine lw_condT (by (first | (apply ev_tmp; ((repeat (apply Lk.there; focus rfl)); exact Lk.here)) | exact ev_cint | exact ev_cbool | exact ev_cnilp | exact ev_cnils | exact ev_func | exact ev_cstr | exact ev_cnilf | exact ev_cnili)) ?_
        refine lwp_skip (hK _ ?_)
        clear hK K
        (repeat refine lwp_seq_k fun K hK => ?_)
        refine lwp_block ?_
        (repeat refine lwp_seq_k fun K hK => ?_)
        refine lw_region ?_
        refine RL.qa (oMove rfl rfl ev_a) ?_
        refine RL.qa (oAssign rfl rfl ev_a) ?_
        refine RL.done ?_
        refine hK _ ?_
        clear hK K
        (repeat refine lwp_seq_k fun K hK => ?_)
        refine lw_region ?_
        refine RL.qa (oLoad rfl rfl ev_a (by rfl) (by rfl)) ?_
        refine RL.qa (oNilCheck rfl rfl ev_a (by rfl) (by rfl)) ?_
        refine RL.qa (oFieldAddr rfl rfl ev_a (by decide) (by rfl)) ?_
        refine RL.qa (oLoad rfl rfl ev_a (by rfl) (by rfl)) ?_
        refine RL.qa (oMove rfl rfl ev_a) ?_
        refine RL.qa (oIndexOs rfl rfl ev_a ev_a (by rfl) (by rfl) (by rfl) (by omega) (by omega) (by decide)) ?_
        refine RL.qa (oFieldAddr rfl rfl ev_a (by decide) (by rfl)) ?_
        refine RL.w0a (oStore rfl rfl ev_a (by rfl) (by rfl) ev_a (by rfl) (by simp [cellsPV, leaf]) (by rfl) (Nat.zero_le _) (by show 0 + (j : Int).toNat * 2 + 1 + 1 ≤ ((t.clear j).l.flatMap secPV).length; rw [length_secs, clear_len t j hj]; omega) (cs := (t.clear (j + 1)).l.flatMap secPV) (by rw [← clear_succ t j hlt]; simp [slabL, cellsPV, setAt])) ?_
        refine RL.done ?_
        refine hK _ ?_
        clear hK K
        (repeat refine lwp_seq_k fun K hK => ?_)
        refine lw_region ?_
        first | (refine RL.qa (oArith rfl rfl ev_a ev_a (by rfl) (by omega) (by omega)) ?_) | (refine RL.qa (oBin rfl rfl ev_a ev_a (by rfl)) ?_)
        refine RL.qa (oMove rfl rfl ev_a) ?_
        refine RL.done ?_
        exact ⟨_, _, (by omega : t.l.length - (j + 1) < t.l.length - j), (lessR_of [0, 1, 2, 3, 4] [] rfl (by decide) (fun m hm => by match m, hm with | 0, _ => rfl | 1, _ => rfl) (by simp) (all_cons ⟨_, by ((repeat (apply Lk.there; focus rfl)); exact Lk.here), (by first | exact .eq rfl | exact .opI rfl | exact .osI rfl | exact .mpI rfl | exact .cv | exact .wk (.eq rfl) (Wk.junk _))⟩ (all_cons ⟨_, by ((repeat (apply Lk.there; focus rfl)); exact Lk.here), (by first | exact .eq rfl | exact .opI rfl | exact .osI rfl | exact .mpI rfl | exact .cv | exact .wk (.eq rfl) (Wk.junk _))⟩ (all_cons ⟨_, by ((repeat (apply Lk.there; focus rfl)); exact Lk.here), (by first | exact .eq rfl | exact .opI rfl | exact .osI rfl | exact .mpI rfl | exact .cv | exact .wk (.eq rfl) (Wk.junk _))⟩ all_nil))) (all_cons ⟨_, _, by rfl, by rfl, (by first | exact slabS_tr rfl | exact slabL_tr | exact ⟨rfl, rfl, rfl, .cv⟩ | (refine ⟨rfl, rfl, rfl, ?_⟩; (repeat (refine TrL.cons (by first | exact .eq rfl | exact .opI rfl | exact .osI rfl | exact .mpI rfl | exact .cv | exact .wk (.eq rfl) (Wk.junk _)) ?_)); exact TrL.nil))⟩ (all_cons ⟨_, _, by rfl, by rfl, (by first | exact slabS_tr rfl | exact slabL_tr | exact ⟨rfl, rfl, rfl, .cv⟩ | (refine ⟨rfl, rfl, rfl, ?_⟩; (repeat (refine TrL.cons (by first | exact .eq rfl | exact .opI rfl | exact .osI rfl | exact .mpI rfl | exact .cv | exact .wk (.eq rfl) (Wk.junk _)) ?_)); exact TrL.nil))⟩ (all_cons ⟨_, _, by rfl, by rfl, (by first | exact slabS_tr rfl | exact slabL_tr | exact ⟨rfl, rfl, rfl, .cv⟩ | (refine ⟨rfl, rfl, rfl, ?_⟩; (repeat (refine TrL.cons (by first | exact .eq rfl | exact .opI rfl | exact .osI rfl | exact .mpI rfl | exact .cv | exact .wk (.eq rfl) (Wk.junk _)) ?_)); exact TrL.nil))⟩ all_nil)))), j + 1, rfl, by omega, rfl⟩
      · obtain rfl : j = t.l.length := by omega
        (repeat refine lwp_seq_k fun K hK => ?_)
        refine lw_region ?_
        refine RL.qa (oBin (v := .bool false) rfl rfl ev_a ev_a (by simp [binI])) ?_
        refine RL.done ?_
        refine hK _ ?_
        clear hK K
        (repeat refine lwp_seq_k fun K hK => ?_)
        refine lw_condF (by (first | (apply ev_tmp; ((repeat (apply Lk.there; focus rfl)); exact Lk.here)) | exact ev_cint | exact ev_cbool | exact ev_cnilp | exact ev_cnils | exact ev_func | exact ev_cstr | exact ev_cnilf | exact ev_cnili)) ?_
        refine lwp_exit ?_
        simp only [thenL, inBlk, if_true]
        clear hK K
        refine hK _ ?_
        clear hK K
        (repeat refine lwp_seq_k fun K hK => ?_)
        refine lw_region_any (by kernel_rfl) ?_
        refine RL.qa (oLoad rfl rfl ev_a (by rfl) (by rfl)) ?_
        refine RL.qa (oLoad rfl rfl ev_a (by rfl) (by rfl)) ?_
        refine RL.qa (oNilCheck rfl rfl ev_a (by rfl) (by rfl)) ?_
        refine RL.qa (oFieldAddr rfl rfl ev_a (by decide) (by rfl)) ?_
        refine RL.w0a (oStore rfl rfl ev_a (by rfl) (by rfl) ev_a (by rfl) (by simp [cellsPV, leaf]) (by rfl) (Nat.zero_le _) (by first | exact Nat.le_of_ble_eq_true rfl | (simp [length_setAt, length_secs, slabS, slabL]; first | done | omega)) (by rfl)) ?_
        refine RL.qa (oNilCheck rfl rfl ev_a (by rfl) (by rfl)) ?_
        refine RL.qa (oFieldAddr rfl rfl ev_a (by decide) (by rfl)) ?_
        refine RL.w0a (oStore rfl rfl ev_a (by rfl) (by rfl) ev_a (by rfl) (by simp [cellsPV, leaf]) (by rfl) (Nat.zero_le _) (by first | exact Nat.le_of_ble_eq_true rfl | (simp [length_setAt, length_secs, slabS, slabL]; first | done | omega)) (by rfl)) ?_
        refine RL.done ⟨by kernel_rfl, ?_⟩
        rw [← hwok]
        exact ⟨.inl rfl, end_of rfl ⟨by simp only [slabS]; rw [clear_len t _ (Nat.le_refl _)]; rfl, rfl, trivial⟩ (retO0 rfl)⟩
theorem wake_nil (s : Slb) (hw : s.wf) : SlabC 16 s [.ro false 0 []] (.tup []) (s.wake []) 3 := wake_ctr s hw [] (by simp)
end Go.Proofs.Ythnjhhohfhnhgaa
