/- SlabCounts: of a supply just as many strokes are made. -/
import Derived.Test.YthnjhhohfhnhgaaSlabS
namespace Go.Proofs.Ythnjhhohfhnhgaa
open Go Go.RowKit
set_option maxRecDepth 10000

/-- The face of sector j. -/
def pl (j : Nat) : List UInt8 := plain (UInt8.ofNat (j + 1))
def secC (k n j : Nat) : Sec := if j < k then ⟨some (pl j), none⟩ else if j < n then ⟨none, some (pl j)⟩ else secD
/-- k sectors are burnt, those up to n inked. -/
def stC (k n sup str : Nat) : Slb := ⟨(List.range 64).map (secC k n), false, sup, str⟩
theorem stC_at (k n sup str j : Nat) (h : j < 64) : (stC k n sup str).l[j]? = some (secC k n j) := by simp [stC, h]
theorem stC_getD (k n sup str j : Nat) (h : j < 64) : (stC k n sup str).l.getD j secD = secC k n j := by rw [List.getD_eq_getElem?_getD, stC_at k n sup str j h]; rfl
theorem stC_len (k n sup str : Nat) : (stC k n sup str).l.length = 64 := by simp [stC]
theorem stC_out (k n sup str : Nat) : (stC k n sup str).out = decide (sup = 0) := by
  show (!false && decide ((sup : Int) = 0)) = decide (sup = 0)
  by_cases h : sup = 0
  · subst h; rfl
  · rw [decide_eq_false h, decide_eq_false (by omega)]
    rfl
theorem pl_len (j : Nat) : (pl j).length = 64 := plain_len _
theorem stC_wf (k n sup str : Nat) : (stC k n sup str).wf := by
  refine ⟨by rw [stC_len]; decide, fun x hx => ?_⟩
  obtain ⟨j, _, rfl⟩ := List.mem_map.1 hx
  unfold secC
  split
  · exact ⟨(fun b hb => by injection hb with hb; rw [← hb]; exact pl_len j), (fun b hb => by cases hb)⟩
  · split
    · exact ⟨(fun b hb => by cases hb), (fun b hb => by injection hb with hb; rw [← hb]; exact pl_len j)⟩
    · exact ⟨(fun b hb => by cases hb), (fun b hb => by cases hb)⟩
theorem stC_0 (S : Nat) : (newS 64).supplied S = stC 0 0 S 0 := by
  unfold Slb.supplied stC
  rw [if_neg (by decide)]
  have e1 : (newS 64).l = (List.range 64).map (secC 0 0) := by rfl
  have e2 : decide ((S : Int) < 0) = false := decide_eq_false (by omega)
  have e3 : max (S : Int) 0 = S := by omega
  rw [e1, e2, e3]
  rfl
theorem stC_struck {k n sup str : Nat} (h0 : 0 < sup) (h1 : sup ≤ 1000) (h2 : str ≤ 1000) : (stC k n sup str).struck = stC k n (sup - 1) (str + 1) := by
  unfold Slb.struck
  rw [stC_out, if_neg (by simp; omega)]
  unfold stC
  simp only [Bool.false_eq_true, if_false]
  rw [wrap_i64 (by omega) (by omega), wrap_i64 (by omega) (by omega)]
  congr 1
  omega
theorem map_set {f g : Nat → Sec} {N j : Nat} {v : Sec} (hj : j < N) (hv : g j = v) (hg : ∀ i, i ≠ j → g i = f i) : ((List.range N).map f).set j v = (List.range N).map g := by
  apply List.ext_getElem?
  intro i
  rw [List.getElem?_set, List.getElem?_map, List.getElem?_map]
  by_cases e : j = i
  · subst e
    simp [hj, hv]
  · rw [if_neg e]
    by_cases h : i < N
    · rw [List.getElem?_range h]
      simp [hg i (Ne.symm e)]
    · rw [List.getElem?_eq_none (by simp; omega)]
      rfl
theorem ink_stC {i sup str : Nat} (hi : i < 64) (h0 : 0 < sup) (h1 : sup ≤ 1000) (h2 : str ≤ 1000) : (stC 0 i sup str).ink (i : Nat) (pl i) = (0, stC 0 (i + 1) (sup - 1) (str + 1)) := by
  unfold Slb.ink
  have hl : (stC 0 i sup str).lookE (i : Nat) = 0 := by
    unfold Slb.lookE
    rw [stC_out, if_neg (by simp; omega), stC_len, if_neg (by omega)]
  rw [hl, if_neg (by simp), if_neg (by simp [pl_len]), stC_struck h0 h1 h2]
  congr 1
  unfold Slb.setInk
  rw [Int.toNat_natCast, stC_getD _ _ _ _ _ hi]
  unfold stC
  congr 1
  refine map_set hi (by simp [secC]) fun q hq => ?_
  unfold secC
  by_cases h : q < i
  · simp [h, show q < i + 1 by omega]
  · simp [h, show ¬ q < i + 1 by omega]
theorem ink_out {s : Slb} (h : s.out = true) (n : Int) (p : List UInt8) : s.ink n p = (12, s) := by
  unfold Slb.ink
  have hl : s.lookE n = 12 := by unfold Slb.lookE; rw [if_pos h]
  rw [hl, if_pos (by simp)]
/-- Nothing is inked from here on. -/
theorem burnGo_none : ∀ (q i : Nat) (s : Slb), (∀ j, i ≤ j → (s.l.getD j secD).ink = none) → Slb.burnGo q i s = (0, s)
  | 0, _, _, _ => rfl
  | q + 1, i, s, h => by
    have e : s.burn1 i = some s := by unfold Slb.burn1; rw [h i (Nat.le_refl _)]
    unfold Slb.burnGo
    rw [e]
    exact burnGo_none q (i + 1) s fun j hj => h j (by omega)
theorem burnGo_stC {n r : Nat} (hn : n ≤ 64) (hr : r ≤ 200) : ∀ d k, k + d = min n r → Slb.burnGo (64 - k) k (stC k n (r - k) (n + k)) = (if n ≤ r then (0 : Int) else 12, stC (min n r) n (r - min n r) (n + min n r))
  | 0, k, h => by
    rw [Nat.add_zero] at h
    subst h
    by_cases hnr : n ≤ r
    · rw [if_pos hnr]
      refine burnGo_none _ _ _ fun j hj => ?_
      rcases Nat.lt_or_ge j 64 with h1 | h1
      · rw [stC_getD _ _ _ _ _ h1]
        unfold secC
        split
        · rfl
        · rw [if_neg (by omega)]
      · rw [List.getD_eq_getElem?_getD, List.getElem?_eq_none (by rw [stC_len]; omega)]
        rfl
    · rw [if_neg hnr, show min n r = r by omega]
      have h64 : 64 - r = (63 - r) + 1 := by omega
      rw [h64]
      unfold Slb.burnGo
      have e : (stC r n (r - r) (n + r)).burn1 r = none := by
        unfold Slb.burn1
        rw [stC_getD _ _ _ _ _ (by omega)]
        have : (secC r n r).ink = some (pl r) := by simp [secC, show r < n by omega]
        rw [this]
        simp only
        rw [stC_out, if_pos (by simp)]
      rw [e]
  | d + 1, k, h => by
    have h64 : 64 - k = (64 - (k + 1)) + 1 := by omega
    rw [h64]
    unfold Slb.burnGo
    have e : (stC k n (r - k) (n + k)).burn1 k = some (stC (k + 1) n (r - (k + 1)) (n + (k + 1))) := by
      unfold Slb.burn1
      rw [stC_getD _ _ _ _ _ (by omega)]
      have : (secC k n k).ink = some (pl k) := by simp [secC, show k < n by omega]
      rw [this]
      simp only
      rw [stC_out, if_neg (by simp; omega), stC_struck (by omega) (by omega) (by omega)]
      unfold Slb.setBurn stC
      congr 2
      · refine map_set (by omega) (by simp [secC]) fun q hq => ?_
        unfold secC
        by_cases h : q < k
        · simp [h, show q < k + 1 by omega]
        · simp [h, show ¬ q < k + 1 by omega]
    rw [e]
    exact burnGo_stC hn hr d (k + 1) (by omega)
/-- What burns of n inked sectors, with r strokes left. -/
theorem burn_stC {n r : Nat} (hn : n ≤ 64) (hr : r ≤ 200) (h0 : 0 < r) : (stC 0 n r n).burn = (if n ≤ r then (0 : Int) else 12, stC (min n r) n (r - min n r) (n + min n r)) := by
  unfold Slb.burn
  have hl : (stC 0 n r n).lookE 0 = 0 := by
    unfold Slb.lookE
    rw [stC_out, if_neg (by simp; omega), stC_len, if_neg (by omega)]
  rw [hl, if_neg (by simp), stC_len]
  exact burnGo_stC hn hr (min n r) 0 (by omega)
theorem burn_out {s : Slb} (h : s.out = true) : s.burn = (12, s) := by
  unfold Slb.burn
  have hl : s.lookE 0 = 12 := by unfold Slb.lookE; rw [if_pos h]
  rw [hl, if_pos (by simp)]
theorem wake_stC {k n sup str j : Nat} (hj : j < 64) : ((stC k n sup str).wake []).face j = if j < k then pl j else plain 0 := by
  unfold Slb.face
  have : ((stC k n sup str).wake []).l[j]? = some ⟨(secC k n j).burnt, none⟩ := by
    simp [Slb.wake, List.getElem?_mapIdx, stC_at _ _ _ _ _ hj, lookM]
  rw [List.getD_eq_getElem?_getD, this]
  simp only [Option.getD_some]
  unfold secC
  split
  · rfl
  · split <;> rfl
theorem pl_ctr {i : Nat} (hi : i < 255) : Ctr Try.prog 13 [.int .u8 ((i : Int) + 1)] (.ro false 64 (pb (pl i))) := by
  have := plain_ctr (UInt8.ofNat (i + 1))
  rw [show ((UInt8.ofNat (i + 1)).toNat : Int) = (i : Int) + 1 by rw [UInt8.toNat_ofNat']; omega] at this
  exact this
theorem plain9 : Ctr Try.prog 13 [.int .u8 9] (.ro false 64 (pb (plain 9))) := plain_ctr 9
set_option maxHeartbeats 1000000 in
theorem counts_ctr (supply inked : Int) : Ctr Try.prog 4 [.int .i64 supply, .int .i64 inked] (.bool true) := by
  refine ctr_go 125 [(0, .int .i64 supply), (1, .int .i64 inked)] Try.func4 rfl rfl rfl (all_cons rfl (all_cons rfl all_nil)) ?_
  (repeat refine lwp_seq_k fun K hK => ?_)
  refine lw_region ?_
  refine RL.qa (oAssign rfl rfl ev_a) ?_
  refine RL.done ?_
  refine hK _ ?_
  clear hK K
  (repeat refine lwp_seq_k fun K hK => ?_)
  refine lw_region ?_
  refine RL.wsa (oNew 64 (by decide) rfl rfl ev_a evs_a rfl) ?_
  refine RL.qa (oAssign rfl rfl ev_a) ?_
  refine RL.done ?_
  refine hK _ ?_
  clear hK K
  (repeat refine lwp_seq_k fun K hK => ?_)
  refine lw_region ?_
  refine RL.qa (oCallC rfl rfl ev_a evs_a (lives_ctr)) ?_
  refine RL.qa (oNot rfl rfl ev_a) ?_
  refine RL.qa (oMove rfl rfl ev_a) ?_
  first | (refine RL.skipA ?_) | (refine RL.wantA ?_; refine RL.qa (oMove rfl rfl ev_a) ?_)
  first | (refine RL.skipA ?_) | (refine RL.wantA ?_; refine RL.qa (oEqNil (neg := false) rfl rfl ev_a rfl (by rfl) rfl (by rfl)) ?_)
  first | (refine RL.qa (oPickT rfl rfl ev_a ev_a) ?_) | (refine RL.qa (oPickF rfl rfl ev_a ev_a) ?_)
  refine RL.done ?_
  refine hK _ ?_
  clear hK K
  (repeat refine lwp_seq_k fun K hK => ?_)
  refine lw_condF (by (first | (apply ev_tmp; ((repeat (apply Lk.there; focus rfl)); exact Lk.here)) | exact ev_cint | exact ev_cbool | exact ev_cnilp | exact ev_cnils | exact ev_func | exact ev_cstr | exact ev_cnilf | exact ev_cnili)) ?_
  refine lwp_skip (hK _ ?_)
  clear hK K
  obtain ⟨u, hu, hu2⟩ := u64_rem supply 80 (by decide)
  obtain ⟨v, hv, hv2⟩ := u64_rem inked 40 (by decide)
  (repeat refine lwp_seq_k fun K hK => ?_)
  refine lw_region ?_
  refine RL.qa (oMove rfl rfl ev_a) ?_
  refine RL.qa (oConv rfl rfl ev_a) ?_
  rw [hu]
  first | (refine RL.qa (oRemN rfl rfl rfl ev_a ev_a (by omega) (by omega)) ?_) | (refine RL.qa (oBin rfl rfl ev_a ev_a (by rfl)) ?_)
  first | (refine RL.qa (oConvI rfl rfl ev_a (wrap_i64 (by omega) (by omega))) ?_) | (refine RL.qa (oConvI rfl rfl ev_a (wrap_u64 (by omega) (by omega))) ?_) | (refine RL.qa (oConvI rfl rfl ev_a (wrap_u32 (by omega) (by omega))) ?_) | (refine RL.qa (oConvI rfl rfl ev_a (wrap_u8 (by omega) (by omega))) ?_) | (refine RL.qa (oStrOf rfl rfl ev_a (by rfl) (by first | rfl | assumption | (simp; first | done | fail))) ?_)
  refine RL.qa (oMove rfl rfl ev_a) ?_
  refine RL.qa (oConv rfl rfl ev_a) ?_
  rw [hv]
  first | (refine RL.qa (oRemN rfl rfl rfl ev_a ev_a (by omega) (by omega)) ?_) | (refine RL.qa (oBin rfl rfl ev_a ev_a (by rfl)) ?_)
  first | (refine RL.qa (oConvI rfl rfl ev_a (wrap_i64 (by omega) (by omega))) ?_) | (refine RL.qa (oConvI rfl rfl ev_a (wrap_u64 (by omega) (by omega))) ?_) | (refine RL.qa (oConvI rfl rfl ev_a (wrap_u32 (by omega) (by omega))) ?_) | (refine RL.qa (oConvI rfl rfl ev_a (wrap_u8 (by omega) (by omega))) ?_) | (refine RL.qa (oStrOf rfl rfl ev_a (by rfl) (by first | rfl | assumption | (simp; first | done | fail))) ?_)
  first | (refine RL.qa (oArith rfl rfl ev_a ev_a (by rfl) (by omega) (by omega)) ?_) | (refine RL.qa (oBin rfl rfl ev_a ev_a (by rfl)) ?_)
  refine RL.qa (oAssign rfl rfl ev_a) ?_
  refine RL.qa (oAssign rfl rfl ev_a) ?_
  refine RL.done ?_
  refine hK _ ?_
  clear hK K
  have hS : u % 80 < 80 := Nat.mod_lt _ (by decide)
  have hn : v % 40 < 40 := Nat.mod_lt _ (by decide)
  have hua : (u : Int) % 80 = ((u % 80 : Nat) : Int) := by omega
  have hva : 1 + (v : Int) % 40 = ((v % 40 + 1 : Nat) : Int) := by omega
  rw [hua, hva]
  generalize u % 80 = S at *
  obtain ⟨n, hn1⟩ : ∃ n, v % 40 + 1 = n := ⟨_, rfl⟩
  rw [hn1]
  have hn0 : 1 ≤ n ∧ n ≤ 40 := by omega
  clear hn1 hn hu hu2 hv hv2 hua hva
  refine lwp_keep (TL' := [(0, _), (1, _), (5, _)]) (HL' := [(0, _), (1, _)]) (all_cons (by ((repeat (apply Lk.there; focus rfl)); exact Lk.here)) (all_cons (by ((repeat (apply Lk.there; focus rfl)); exact Lk.here)) (all_cons (by ((repeat (apply Lk.there; focus rfl)); exact Lk.here)) all_nil))) (all_cons (by rfl) (all_cons (by rfl) all_nil)) ?_
  (repeat refine lwp_seq_k fun K hK => ?_)
  refine lw_region ?_
  refine RL.qa (oMove rfl rfl ev_a) ?_
  refine RL.qa (oMove rfl rfl ev_a) ?_
  refine RL.wsa (oSlab 1 0 rfl rfl ev_a evs_a (supply_ctr (newS 64) S) rfl rfl rfl (by rfl) rfl) ?_
  refine RL.done ?_
  refine hK _ ?_
  clear hK K
  rw [stC_0 S]
  (repeat refine lwp_seq_k fun K hK => ?_)
  refine lw_region ?_
  refine RL.qa (oMove rfl rfl ev_a) ?_
  refine RL.qa (oMove rfl rfl ev_a) ?_
  refine RL.done ?_
  refine hK _ ?_
  clear hK K
  (repeat refine lwp_seq_k fun K hK => ?_)
  refine lwp_block ?_
  refine lwp_loopR (fun q st => ∃ (j m : Nat), q = n - j ∧ j ≤ n ∧ m = min j S ∧ st = St' [(0, .int .i64 S), (1, .int .i64 n), (5, .op 1 0 0), (32, .int .i64 n), (33, .int .i64 j)] [(0, slabL (stC 0 m (S - m) m)), (1, slabS 0 (stC 0 m (S - m) m))] 2) n _
    (lessR_of [0, 1] [] rfl (by decide) (fun m hm => by first | omega | simp at hm) (by simp) (all_cons ⟨_, by ((repeat (apply Lk.there; focus rfl)); exact Lk.here), (by first | exact .eq rfl | exact .opI rfl | exact .osI rfl | exact .mpI rfl | exact .cv | exact .wk (.eq rfl) (Wk.junk _))⟩ (all_cons ⟨_, by ((repeat (apply Lk.there; focus rfl)); exact Lk.here), (by first | exact .eq rfl | exact .opI rfl | exact .osI rfl | exact .mpI rfl | exact .cv | exact .wk (.eq rfl) (Wk.junk _))⟩ (all_cons ⟨_, by ((repeat (apply Lk.there; focus rfl)); exact Lk.here), (by first | exact .eq rfl | exact .opI rfl | exact .osI rfl | exact .mpI rfl | exact .cv | exact .wk (.eq rfl) (Wk.junk _))⟩ (all_cons ⟨_, by ((repeat (apply Lk.there; focus rfl)); exact Lk.here), (by first | exact .eq rfl | exact .opI rfl | exact .osI rfl | exact .mpI rfl | exact .cv | exact .wk (.eq rfl) (Wk.junk _))⟩ (all_cons ⟨_, by ((repeat (apply Lk.there; focus rfl)); exact Lk.here), (by first | exact .eq rfl | exact .opI rfl | exact .osI rfl | exact .mpI rfl | exact .cv | exact .wk (.eq rfl) (Wk.junk _))⟩ all_nil))))) (all_cons ⟨_, _, by rfl, by rfl, (by first | exact slabS_tr rfl | exact slabL_tr | exact ⟨rfl, rfl, rfl, .cv⟩ | (refine ⟨rfl, rfl, rfl, ?_⟩; (repeat (refine TrL.cons (by first | exact .eq rfl | exact .opI rfl | exact .osI rfl | exact .mpI rfl | exact .cv | exact .wk (.eq rfl) (Wk.junk _)) ?_)); exact TrL.nil))⟩ (all_cons ⟨_, _, by rfl, by rfl, (by first | exact slabS_tr rfl | exact slabL_tr | exact ⟨rfl, rfl, rfl, .cv⟩ | (refine ⟨rfl, rfl, rfl, ?_⟩; (repeat (refine TrL.cons (by first | exact .eq rfl | exact .opI rfl | exact .osI rfl | exact .mpI rfl | exact .cv | exact .wk (.eq rfl) (Wk.junk _)) ?_)); exact TrL.nil))⟩ all_nil))) ⟨0, 0, rfl, Nat.zero_le _, by omega, rfl⟩ ?_
  rintro q _ ⟨j, m, rfl, hj, hm, rfl⟩
  by_cases hlt : j < n
  · (repeat refine lwp_seq_k fun K hK => ?_)
    refine lw_region ?_
    refine RL.qa (oBin (v := .bool true) rfl rfl ev_a ev_a (by simp [binI]; omega)) ?_
    refine RL.done ?_
    refine hK _ ?_
    clear hK K
    (repeat refine lwp_seq_k fun K hK => ?_)
    refine lw_condT (by (first | (apply ev_tmp; ((repeat (apply Lk.there; focus rfl)); exact Lk.here)) | exact ev_cint | exact ev_cbool | exact ev_cnilp | exact ev_cnils | exact ev_func | exact ev_cstr | exact ev_cnilf | exact ev_cnili)) ?_
    refine lwp_skip (hK _ ?_)
    clear hK K
    (repeat refine lwp_seq_k fun K hK => ?_)
    refine lwp_block ?_
    (repeat refine lwp_seq_k fun K hK => ?_)
    refine lw_region ?_
    refine RL.qa (oMove rfl rfl ev_a) ?_
    refine RL.qa (oAssign rfl rfl ev_a) ?_
    refine RL.done ?_
    refine hK _ ?_
    clear hK K
    by_cases hs : j < S
    · obtain rfl : m = j := by omega
      have e1 := ink_stC (i := m) (sup := S - m) (str := m) (by omega) (by omega) (by omega) (by omega)
      have hc : SlabC 12 _ [.int .i64 m, .ro false 64 (pb (pl m))] (.int .i64 ((stC 0 m (S - m) m).ink m (pl m)).1) ((stC 0 m (S - m) m).ink m (pl m)).2 0 := ink_plain (stC 0 m (S - m) m) (stC_wf _ _ _ _) m (UInt8.ofNat (m + 1))
      rw [e1] at hc
      (repeat refine lwp_seq_k fun K hK => ?_)
      refine lw_region ?_
      refine RL.qa (oMove rfl rfl ev_a) ?_
      refine RL.qa (oMove rfl rfl ev_a) ?_
      refine RL.qa (oMove rfl rfl ev_a) ?_
      first | (refine RL.qa (oArith rfl rfl ev_a ev_a (by rfl) (by omega) (by omega)) ?_) | (refine RL.qa (oBin rfl rfl ev_a ev_a (by rfl)) ?_)
      first | (refine RL.qa (oConvI rfl rfl ev_a (wrap_i64 (by omega) (by omega))) ?_) | (refine RL.qa (oConvI rfl rfl ev_a (wrap_u64 (by omega) (by omega))) ?_) | (refine RL.qa (oConvI rfl rfl ev_a (wrap_u32 (by omega) (by omega))) ?_) | (refine RL.qa (oConvI rfl rfl ev_a (wrap_u8 (by omega) (by omega))) ?_) | (refine RL.qa (oStrOf rfl rfl ev_a (by rfl) (by first | rfl | assumption | (simp; first | done | fail))) ?_)
      refine RL.qa (oCallC rfl rfl ev_a evs_a (pl_ctr (i := m) (by omega))) ?_
      refine RL.wsa (oSlab 1 0 rfl rfl ev_a evs_a (hc) rfl rfl rfl (by rfl) rfl) ?_
      first | (refine RL.qa (oBin rfl rfl ev_a ev_a (by rfl)) ?_) | (refine RL.qa (oStr rfl rfl ev_a ev_a (by rfl)) ?_)
      refine RL.qa (oMove rfl rfl ev_a) ?_
      refine RL.qa (oMove rfl rfl ev_a) ?_
      refine RL.qa (oBin (v := .bool true) rfl rfl ev_a ev_a (by simp [binI]; omega)) ?_
      refine RL.qa (oEqB (neg := true) (v := false) rfl rfl rfl ev_a ev_a (by rfl)) ?_
      refine RL.done ?_
      refine hK _ ?_
      clear hK K
      (repeat refine lwp_seq_k fun K hK => ?_)
      refine lw_condF (by (first | (apply ev_tmp; ((repeat (apply Lk.there; focus rfl)); exact Lk.here)) | exact ev_cint | exact ev_cbool | exact ev_cnilp | exact ev_cnils | exact ev_func | exact ev_cstr | exact ev_cnilf | exact ev_cnili)) ?_
      refine lwp_skip ?_
      show inBlk 1 _ .normal _
      simp only [inBlk, thenL]
      refine hK _ ?_
      clear hK K
      (repeat refine lwp_seq_k fun K hK => ?_)
      refine lw_region ?_
      first | (refine RL.qa (oArith rfl rfl ev_a ev_a (by rfl) (by omega) (by omega)) ?_) | (refine RL.qa (oBin rfl rfl ev_a ev_a (by rfl)) ?_)
      refine RL.qa (oMove rfl rfl ev_a) ?_
      refine RL.done ?_
      refine ⟨_, _, (by omega : n - (m + 1) < n - m), ?_, m + 1, m + 1, rfl, by omega, by omega, rfl⟩
      rw [show S - (m + 1) = S - m - 1 by omega]
      exact (lessR_of [0, 1] [] rfl (by decide) (fun m hm => by first | omega | simp at hm) (by simp) (all_cons ⟨_, by ((repeat (apply Lk.there; focus rfl)); exact Lk.here), (by first | exact .eq rfl | exact .opI rfl | exact .osI rfl | exact .mpI rfl | exact .cv | exact .wk (.eq rfl) (Wk.junk _))⟩ (all_cons ⟨_, by ((repeat (apply Lk.there; focus rfl)); exact Lk.here), (by first | exact .eq rfl | exact .opI rfl | exact .osI rfl | exact .mpI rfl | exact .cv | exact .wk (.eq rfl) (Wk.junk _))⟩ (all_cons ⟨_, by ((repeat (apply Lk.there; focus rfl)); exact Lk.here), (by first | exact .eq rfl | exact .opI rfl | exact .osI rfl | exact .mpI rfl | exact .cv | exact .wk (.eq rfl) (Wk.junk _))⟩ (all_cons ⟨_, by ((repeat (apply Lk.there; focus rfl)); exact Lk.here), (by first | exact .eq rfl | exact .opI rfl | exact .osI rfl | exact .mpI rfl | exact .cv | exact .wk (.eq rfl) (Wk.junk _))⟩ (all_cons ⟨_, by ((repeat (apply Lk.there; focus rfl)); exact Lk.here), (by first | exact .eq rfl | exact .opI rfl | exact .osI rfl | exact .mpI rfl | exact .cv | exact .wk (.eq rfl) (Wk.junk _))⟩ all_nil))))) (all_cons ⟨_, _, by rfl, by rfl, (by first | exact slabS_tr rfl | exact slabL_tr | exact ⟨rfl, rfl, rfl, .cv⟩ | (refine ⟨rfl, rfl, rfl, ?_⟩; (repeat (refine TrL.cons (by first | exact .eq rfl | exact .opI rfl | exact .osI rfl | exact .mpI rfl | exact .cv | exact .wk (.eq rfl) (Wk.junk _)) ?_)); exact TrL.nil))⟩ (all_cons ⟨_, _, by rfl, by rfl, (by first | exact slabS_tr rfl | exact slabL_tr | exact ⟨rfl, rfl, rfl, .cv⟩ | (refine ⟨rfl, rfl, rfl, ?_⟩; (repeat (refine TrL.cons (by first | exact .eq rfl | exact .opI rfl | exact .osI rfl | exact .mpI rfl | exact .cv | exact .wk (.eq rfl) (Wk.junk _)) ?_)); exact TrL.nil))⟩ all_nil)))
    · obtain rfl : m = S := by omega
      have ho : (stC 0 m (m - m) m).out = true := by rw [stC_out]; simp
      have hc : SlabC 12 _ [.int .i64 j, .ro false 64 (pb (pl j))] (.int .i64 ((stC 0 m (m - m) m).ink j (pl j)).1) ((stC 0 m (m - m) m).ink j (pl j)).2 0 := ink_plain (stC 0 m (m - m) m) (stC_wf _ _ _ _) j (UInt8.ofNat (j + 1))
      rw [ink_out ho] at hc
      (repeat refine lwp_seq_k fun K hK => ?_)
      refine lw_region ?_
      refine RL.qa (oMove rfl rfl ev_a) ?_
      refine RL.qa (oMove rfl rfl ev_a) ?_
      refine RL.qa (oMove rfl rfl ev_a) ?_
      first | (refine RL.qa (oArith rfl rfl ev_a ev_a (by rfl) (by omega) (by omega)) ?_) | (refine RL.qa (oBin rfl rfl ev_a ev_a (by rfl)) ?_)
      first | (refine RL.qa (oConvI rfl rfl ev_a (wrap_i64 (by omega) (by omega))) ?_) | (refine RL.qa (oConvI rfl rfl ev_a (wrap_u64 (by omega) (by omega))) ?_) | (refine RL.qa (oConvI rfl rfl ev_a (wrap_u32 (by omega) (by omega))) ?_) | (refine RL.qa (oConvI rfl rfl ev_a (wrap_u8 (by omega) (by omega))) ?_) | (refine RL.qa (oStrOf rfl rfl ev_a (by rfl) (by first | rfl | assumption | (simp; first | done | fail))) ?_)
      refine RL.qa (oCallC rfl rfl ev_a evs_a (pl_ctr (i := j) (by omega))) ?_
      refine RL.wsa (oSlab 1 0 rfl rfl ev_a evs_a (hc) rfl rfl rfl (by rfl) rfl) ?_
      first | (refine RL.qa (oBin rfl rfl ev_a ev_a (by rfl)) ?_) | (refine RL.qa (oStr rfl rfl ev_a ev_a (by rfl)) ?_)
      refine RL.qa (oMove rfl rfl ev_a) ?_
      refine RL.qa (oMove rfl rfl ev_a) ?_
      refine RL.qa (oBin (v := .bool false) rfl rfl ev_a ev_a (by simp [binI]; omega)) ?_
      refine RL.qa (oEqB (neg := true) (v := false) rfl rfl rfl ev_a ev_a (by rfl)) ?_
      refine RL.done ?_
      refine hK _ ?_
      clear hK K
      (repeat refine lwp_seq_k fun K hK => ?_)
      refine lw_condF (by (first | (apply ev_tmp; ((repeat (apply Lk.there; focus rfl)); exact Lk.here)) | exact ev_cint | exact ev_cbool | exact ev_cnilp | exact ev_cnils | exact ev_func | exact ev_cstr | exact ev_cnilf | exact ev_cnili)) ?_
      refine lwp_skip ?_
      show inBlk 1 _ .normal _
      simp only [inBlk, thenL]
      refine hK _ ?_
      clear hK K
      (repeat refine lwp_seq_k fun K hK => ?_)
      refine lw_region ?_
      first | (refine RL.qa (oArith rfl rfl ev_a ev_a (by rfl) (by omega) (by omega)) ?_) | (refine RL.qa (oBin rfl rfl ev_a ev_a (by rfl)) ?_)
      refine RL.qa (oMove rfl rfl ev_a) ?_
      refine RL.done ?_
      exact ⟨_, _, (by omega : n - (j + 1) < n - j), (lessR_of [0, 1] [] rfl (by decide) (fun m hm => by first | omega | simp at hm) (by simp) (all_cons ⟨_, by ((repeat (apply Lk.there; focus rfl)); exact Lk.here), (by first | exact .eq rfl | exact .opI rfl | exact .osI rfl | exact .mpI rfl | exact .cv | exact .wk (.eq rfl) (Wk.junk _))⟩ (all_cons ⟨_, by ((repeat (apply Lk.there; focus rfl)); exact Lk.here), (by first | exact .eq rfl | exact .opI rfl | exact .osI rfl | exact .mpI rfl | exact .cv | exact .wk (.eq rfl) (Wk.junk _))⟩ (all_cons ⟨_, by ((repeat (apply Lk.there; focus rfl)); exact Lk.here), (by first | exact .eq rfl | exact .opI rfl | exact .osI rfl | exact .mpI rfl | exact .cv | exact .wk (.eq rfl) (Wk.junk _))⟩ (all_cons ⟨_, by ((repeat (apply Lk.there; focus rfl)); exact Lk.here), (by first | exact .eq rfl | exact .opI rfl | exact .osI rfl | exact .mpI rfl | exact .cv | exact .wk (.eq rfl) (Wk.junk _))⟩ (all_cons ⟨_, by ((repeat (apply Lk.there; focus rfl)); exact Lk.here), (by first | exact .eq rfl | exact .opI rfl | exact .osI rfl | exact .mpI rfl | exact .cv | exact .wk (.eq rfl) (Wk.junk _))⟩ all_nil))))) (all_cons ⟨_, _, by rfl, by rfl, (by first | exact slabS_tr rfl | exact slabL_tr | exact ⟨rfl, rfl, rfl, .cv⟩ | (refine ⟨rfl, rfl, rfl, ?_⟩; (repeat (refine TrL.cons (by first | exact .eq rfl | exact .opI rfl | exact .osI rfl | exact .mpI rfl | exact .cv | exact .wk (.eq rfl) (Wk.junk _)) ?_)); exact TrL.nil))⟩ (all_cons ⟨_, _, by rfl, by rfl, (by first | exact slabS_tr rfl | exact slabL_tr | exact ⟨rfl, rfl, rfl, .cv⟩ | (refine ⟨rfl, rfl, rfl, ?_⟩; (repeat (refine TrL.cons (by first | exact .eq rfl | exact .opI rfl | exact .osI rfl | exact .mpI rfl | exact .cv | exact .wk (.eq rfl) (Wk.junk _)) ?_)); exact TrL.nil))⟩ all_nil))), j + 1, m, rfl, by omega, by omega, rfl⟩
  · obtain rfl : j = n := by omega
    (repeat refine lwp_seq_k fun K hK => ?_)
    refine lw_region ?_
    refine RL.qa (oBin (v := .bool false) rfl rfl ev_a ev_a (by simp [binI])) ?_
    refine RL.done ?_
    refine hK _ ?_
    clear hK K
    (repeat refine lwp_seq_k fun K hK => ?_)
    refine lw_condF (by (first | (apply ev_tmp; ((repeat (apply Lk.there; focus rfl)); exact Lk.here)) | exact ev_cint | exact ev_cbool | exact ev_cnilp | exact ev_cnils | exact ev_func | exact ev_cstr | exact ev_cnilf | exact ev_cnili)) ?_
    refine lwp_exit ?_
    simp only [thenL, inBlk, if_true]
    clear hK K
    refine hK _ ?_
    clear hK K
    -- what burns
    obtain ⟨bn, hbn⟩ : ∃ bn, bn = min j (S - j) := ⟨_, rfl⟩
    have hburn : ∃ (e : Int) (t : Slb), (stC 0 m (S - m) m).burn = (e, t) ∧ (e = 0 ∨ e = 12) ∧ (e = 0 ↔ (j < S ∧ bn = j)) ∧ t.strokes = ((min S (j + bn) : Nat) : Int) ∧ t.wf ∧ t.l.length = 64 ∧ ∀ q, q < 64 → (t.wake []).face q = if q < bn then pl q else plain 0 := by
      rcases Nat.lt_or_ge j S with h1 | h1
      · obtain rfl : m = j := by omega
        rw [burn_stC (by omega) (by omega) (by omega)]
        have hb2 : min m (S - m) = bn := hbn.symm
        rw [hb2]
        refine ⟨_, _, rfl, ?_, ?_, ?_, stC_wf _ _ _ _, stC_len _ _ _ _, fun q hq => wake_stC hq⟩
        · split <;> simp
        · split
          · simp; omega
          · simp; omega
        · show ((m + bn : Nat) : Int) = _
          congr 1
          omega
      · obtain rfl : m = S := by omega
        have ho : (stC 0 m (m - m) m).out = true := by rw [stC_out]; simp
        rw [burn_out ho]
        obtain rfl : bn = 0 := by omega
        refine ⟨_, _, rfl, .inr rfl, ?_, ?_, stC_wf _ _ _ _, stC_len _ _ _ _, fun q hq => wake_stC hq⟩
        · simp; omega
        · show ((m : Nat) : Int) = _
          congr 1
          omega
    obtain ⟨e, t, hbe, he, he0, hstr, hwt, htl, hface⟩ := hburn
    have hcb := burn_ctr (stC 0 m (S - m) m) (stC_wf _ _ _ _)
    rw [hbe] at hcb
    (repeat refine lwp_seq_k fun K hK => ?_)
    refine lw_region ?_
    refine RL.qa (oMove rfl rfl ev_a) ?_
    refine RL.qa (oMove rfl rfl ev_a) ?_
    refine RL.qa (oMove rfl rfl ev_a) ?_
    refine RL.qa (oArith (r := (S : Int) - j) rfl rfl ev_a ev_a (by simp [binI]) (by omega) (by omega)) ?_
    refine RL.qa (oMM true (r := ((S - j : Nat) : Int)) rfl rfl ev_a ev_a (by simp; omega)) ?_
    refine RL.qa (oMM false (r := (bn : Int)) rfl rfl ev_a ev_a (by simp; omega)) ?_
    refine RL.qa (oAssign rfl rfl ev_a) ?_
    refine RL.done ?_
    refine hK _ ?_
    clear hK K
    (repeat refine lwp_seq_k fun K hK => ?_)
    refine lw_region ?_
    refine RL.qa (oMove rfl rfl ev_a) ?_
    refine RL.wsa (oSlab 1 0 rfl rfl ev_a evs_a (hcb) rfl rfl rfl (by rfl) rfl) ?_
    refine RL.qa (oAssign rfl rfl ev_a) ?_
    refine RL.done ?_
    refine hK _ ?_
    clear hK K
    have hcs := strokes_ctr t
    rw [hstr] at hcs
    rcases he with rfl | rfl
    · have h0 := he0.1 rfl
      (repeat refine lwp_seq_k fun K hK => ?_)
      refine lw_region ?_
      refine RL.qa (oMove rfl rfl ev_a) ?_
      refine RL.qa (oBin (v := .bool true) rfl rfl ev_a ev_a (by simp [binI])) ?_
      refine RL.qa (oMove rfl rfl ev_a) ?_
      refine RL.qa (oMove rfl rfl ev_a) ?_
      refine RL.qa (oBin (v := .bool true) rfl rfl ev_a ev_a (by simp [binI]; omega)) ?_
      refine RL.qa (oMove rfl rfl ev_a) ?_
      first | (refine RL.skipA ?_) | (refine RL.wantA ?_; refine RL.qa (oMove rfl rfl ev_a) ?_)
      first | (refine RL.skipA ?_) | (refine RL.wantA ?_; refine RL.qa (oMove rfl rfl ev_a) ?_)
      refine RL.wantA ?_
      refine RL.qa (oBin (v := .bool true) rfl rfl ev_a ev_a (by simp [binI]; omega)) ?_
      first | (refine RL.qa (oPickT rfl rfl ev_a ev_a) ?_) | (refine RL.qa (oPickF rfl rfl ev_a ev_a) ?_)
      refine RL.qa (oEqB (neg := true) (v := false) rfl rfl rfl ev_a ev_a (by rfl)) ?_
      refine RL.qa (oMove rfl rfl ev_a) ?_
      first | (refine RL.skipA ?_) | (refine RL.wantA ?_; refine RL.qa (oMove rfl rfl ev_a) ?_)
      refine RL.wantA ?_
      refine RL.qa (oBin (v := .bool false) rfl rfl ev_a ev_a (by simp [binI])) ?_
      first | (refine RL.skipA ?_) | (refine RL.wantA ?_; refine RL.qa (oMove rfl rfl ev_a) ?_)
      first | (refine RL.skipA ?_) | (refine RL.wantA ?_; refine RL.qa (oMove rfl rfl ev_a) ?_)
      first | (refine RL.skipA ?_) | (refine RL.wantA ?_; (first | (refine RL.qa (oBin rfl rfl ev_a ev_a (by rfl)) ?_) | (refine RL.qa (oStr rfl rfl ev_a ev_a (by rfl)) ?_)))
      first | (refine RL.skipA ?_) | (refine RL.wantA ?_; (first | (refine RL.qa (oPickT rfl rfl ev_a ev_a) ?_) | (refine RL.qa (oPickF rfl rfl ev_a ev_a) ?_)))
      first | (refine RL.qa (oPickT rfl rfl ev_a ev_a) ?_) | (refine RL.qa (oPickF rfl rfl ev_a ev_a) ?_)
      refine RL.qa (oMove rfl rfl ev_a) ?_
      first | (refine RL.skipA ?_) | (refine RL.wantA ?_; refine RL.qa (oMove rfl rfl ev_a) ?_)
      first | (refine RL.skipA ?_) | (refine RL.wantA ?_; refine RL.wsa (oSlab 1 0 rfl rfl ev_a evs_a (hcs) rfl rfl rfl (by rfl) rfl) ?_)
      first | (refine RL.skipA ?_) | (refine RL.wantA ?_; refine RL.qa (oMove rfl rfl ev_a) ?_)
      first | (refine RL.skipA ?_) | (refine RL.wantA ?_; refine RL.qa (oMove rfl rfl ev_a) ?_)
      first | (refine RL.skipA ?_) | (refine RL.wantA ?_; refine RL.qa (oMove rfl rfl ev_a) ?_)
      refine RL.wantA ?_
      refine RL.qa (oArith (r := ((j + bn : Nat) : Int)) rfl rfl ev_a ev_a (by simp [binI]) (by omega) (by omega)) ?_
      refine RL.wantA ?_
      refine RL.qa (oMM false (r := ((min S (j + bn) : Nat) : Int)) rfl rfl ev_a ev_a (by simp; omega)) ?_
      refine RL.wantA ?_
      refine RL.qa (oBin (v := .bool false) rfl rfl ev_a ev_a (by simp [binI])) ?_
      first | (refine RL.qa (oPickT rfl rfl ev_a ev_a) ?_) | (refine RL.qa (oPickF rfl rfl ev_a ev_a) ?_)
      refine RL.done ?_
      refine hK _ ?_
      clear hK K
      (repeat refine lwp_seq_k fun K hK => ?_)
      refine lw_condF (by (first | (apply ev_tmp; ((repeat (apply Lk.there; focus rfl)); exact Lk.here)) | exact ev_cint | exact ev_cbool | exact ev_cnilp | exact ev_cnils | exact ev_func | exact ev_cstr | exact ev_cnilf | exact ev_cnili)) ?_
      refine lwp_skip (hK _ ?_)
      clear hK K
      refine lwp_keep (TL' := [(0, _), (1, _), (5, _), (7, _)]) (HL' := [(0, _), (1, _)]) (all_cons (by ((repeat (apply Lk.there; focus rfl)); exact Lk.here)) (all_cons (by ((repeat (apply Lk.there; focus rfl)); exact Lk.here)) (all_cons (by ((repeat (apply Lk.there; focus rfl)); exact Lk.here)) (all_cons (by ((repeat (apply Lk.there; focus rfl)); exact Lk.here)) all_nil)))) (all_cons (by rfl) (all_cons (by rfl) all_nil)) ?_
      (repeat refine lwp_seq_k fun K hK => ?_)
      refine lw_region ?_
      refine RL.qa (oMove rfl rfl ev_a) ?_
      refine RL.wsa (oSlab 1 0 rfl rfl ev_a evs_a (wake_nil t hwt) rfl rfl rfl (by rfl) rfl) ?_
      refine RL.done ?_
      refine hK _ ?_
      clear hK K
      have hw5 := wake_wf hwt []
      have hl5 : (t.wake []).l.length = 64 := by rw [wake_len, htl]
      have he5 : (t.wake []).endless = true := rfl
      generalize t.wake [] = t5 at *
      (repeat refine lwp_seq_k fun K hK => ?_)
      refine lw_region ?_
      refine RL.qa (oMove rfl rfl ev_a) ?_
      refine RL.qa (oMove rfl rfl ev_a) ?_
      refine RL.done ?_
      refine hK _ ?_
      clear hK K
      (repeat refine lwp_seq_k fun K hK => ?_)
      refine lwp_block ?_
      refine lwp_loopR (fun q st => ∃ (i : Nat), q = j - i ∧ i ≤ j ∧ st = St' [(5, .op 1 0 0), (7, .int .i64 bn), (88, .int .i64 j), (89, .int .i64 i)] [(0, slabL t5), (1, slabS 0 t5)] 2) j _
        (lessR_of [0, 1] [] rfl (by decide) (fun m hm => by first | omega | simp at hm) (by simp) (all_cons ⟨_, by ((repeat (apply Lk.there; focus rfl)); exact Lk.here), (by first | exact .eq rfl | exact .opI rfl | exact .osI rfl | exact .mpI rfl | exact .cv | exact .wk (.eq rfl) (Wk.junk _))⟩ (all_cons ⟨_, by ((repeat (apply Lk.there; focus rfl)); exact Lk.here), (by first | exact .eq rfl | exact .opI rfl | exact .osI rfl | exact .mpI rfl | exact .cv | exact .wk (.eq rfl) (Wk.junk _))⟩ (all_cons ⟨_, by ((repeat (apply Lk.there; focus rfl)); exact Lk.here), (by first | exact .eq rfl | exact .opI rfl | exact .osI rfl | exact .mpI rfl | exact .cv | exact .wk (.eq rfl) (Wk.junk _))⟩ (all_cons ⟨_, by ((repeat (apply Lk.there; focus rfl)); exact Lk.here), (by first | exact .eq rfl | exact .opI rfl | exact .osI rfl | exact .mpI rfl | exact .cv | exact .wk (.eq rfl) (Wk.junk _))⟩ all_nil)))) (all_cons ⟨_, _, by rfl, by rfl, (by first | exact slabS_tr rfl | exact slabL_tr | exact ⟨rfl, rfl, rfl, .cv⟩ | (refine ⟨rfl, rfl, rfl, ?_⟩; (repeat (refine TrL.cons (by first | exact .eq rfl | exact .opI rfl | exact .osI rfl | exact .mpI rfl | exact .cv | exact .wk (.eq rfl) (Wk.junk _)) ?_)); exact TrL.nil))⟩ (all_cons ⟨_, _, by rfl, by rfl, (by first | exact slabS_tr rfl | exact slabL_tr | exact ⟨rfl, rfl, rfl, .cv⟩ | (refine ⟨rfl, rfl, rfl, ?_⟩; (repeat (refine TrL.cons (by first | exact .eq rfl | exact .opI rfl | exact .osI rfl | exact .mpI rfl | exact .cv | exact .wk (.eq rfl) (Wk.junk _)) ?_)); exact TrL.nil))⟩ all_nil))) ⟨0, rfl, Nat.zero_le _, rfl⟩ ?_
      rintro q _ ⟨i, rfl, hi, rfl⟩
      by_cases hlt : i < j
      · have hlk : t5.lookE i = 0 := look_endless he5 (by omega) (by omega)
        have hfc := hface i (by omega)
        (repeat refine lwp_seq_k fun K hK => ?_)
        refine lw_region ?_
        refine RL.qa (oBin (v := .bool true) rfl rfl ev_a ev_a (by simp [binI]; omega)) ?_
        refine RL.done ?_
        refine hK _ ?_
        clear hK K
        (repeat refine lwp_seq_k fun K hK => ?_)
        refine lw_condT (by (first | (apply ev_tmp; ((repeat (apply Lk.there; focus rfl)); exact Lk.here)) | exact ev_cint | exact ev_cbool | exact ev_cnilp | exact ev_cnils | exact ev_func | exact ev_cstr | exact ev_cnilf | exact ev_cnili)) ?_
        refine lwp_skip (hK _ ?_)
        clear hK K
        (repeat refine lwp_seq_k fun K hK => ?_)
        refine lwp_block ?_
        (repeat refine lwp_seq_k fun K hK => ?_)
        refine lw_region ?_
        refine RL.qa (oMove rfl rfl ev_a) ?_
        refine RL.qa (oAssign rfl rfl ev_a) ?_
        refine RL.done ?_
        refine hK _ ?_
        clear hK K
        (repeat refine lwp_seq_k fun K hK => ?_)
        refine lw_region ?_
        refine RL.qa (oMove rfl rfl ev_a) ?_
        refine RL.qa (oMove rfl rfl ev_a) ?_
        refine RL.wsa (oSlab 1 0 rfl rfl ev_a evs_a (face_ok t5 i hw5 hlk) rfl rfl rfl (by rfl) rfl) ?_
        refine RL.qa (oMove rfl rfl ev_a) ?_
        refine RL.qa (oExtract rfl rfl ev_a (by rfl)) ?_
        refine RL.qa (oExtract rfl rfl ev_a (by rfl)) ?_
        refine RL.qa (oAssign rfl rfl ev_a) ?_
        refine RL.qa (oAssign rfl rfl ev_a) ?_
        refine RL.done ?_
        refine hK _ ?_
        clear hK K
        rw [show t5.face (Int.toNat i) = _ from hfc]
        (repeat refine lwp_seq_k fun K hK => ?_)
        refine lw_region ?_
        refine RL.qa (oCallC rfl rfl ev_a evs_a (plain0)) ?_
        refine RL.qa (oAssign rfl rfl ev_a) ?_
        refine RL.done ?_
        refine hK _ ?_
        clear hK K
        by_cases hib : i < bn
        · rw [if_pos hib]
          (repeat refine lwp_seq_k fun K hK => ?_)
          refine lw_region ?_
          refine RL.qa (oMove rfl rfl ev_a) ?_
          refine RL.qa (oMove rfl rfl ev_a) ?_
          refine RL.qa (oBin (v := .bool true) rfl rfl ev_a ev_a (by simp [binI]; omega)) ?_
          refine RL.done ?_
          refine hK _ ?_
          clear hK K
          (repeat refine lwp_seq_k fun K hK => ?_)
          refine lw_condT (by (first | (apply ev_tmp; ((repeat (apply Lk.there; focus rfl)); exact Lk.here)) | exact ev_cint | exact ev_cbool | exact ev_cnilp | exact ev_cnils | exact ev_func | exact ev_cstr | exact ev_cnilf | exact ev_cnili)) ?_
          (repeat refine lwp_seq_k fun K hK => ?_)
          refine lw_region ?_
          refine RL.qa (oMove rfl rfl ev_a) ?_
          first | (refine RL.qa (oArith rfl rfl ev_a ev_a (by rfl) (by omega) (by omega)) ?_) | (refine RL.qa (oBin rfl rfl ev_a ev_a (by rfl)) ?_)
          first | (refine RL.qa (oConvI rfl rfl ev_a (wrap_i64 (by omega) (by omega))) ?_) | (refine RL.qa (oConvI rfl rfl ev_a (wrap_u64 (by omega) (by omega))) ?_) | (refine RL.qa (oConvI rfl rfl ev_a (wrap_u32 (by omega) (by omega))) ?_) | (refine RL.qa (oConvI rfl rfl ev_a (wrap_u8 (by omega) (by omega))) ?_) | (refine RL.qa (oStrOf rfl rfl ev_a (by rfl) (by first | rfl | assumption | (simp; first | done | fail))) ?_)
          refine RL.qa (oCallC rfl rfl ev_a evs_a (pl_ctr (i := i) (by omega))) ?_
          refine RL.qa (oAssign rfl rfl ev_a) ?_
          refine RL.done ?_
          refine hK _ ?_
          clear hK K
          (repeat refine lwp_seq_k fun K hK => ?_)
          refine lw_region ?_
          refine RL.qa (oMove rfl rfl ev_a) ?_
          first | (refine RL.qa (oBin rfl rfl ev_a ev_a (by rfl)) ?_) | (refine RL.qa (oStr rfl rfl ev_a ev_a (by rfl)) ?_)
          refine RL.qa (oMove rfl rfl ev_a) ?_
          first | (refine RL.skipA ?_) | (refine RL.wantA ?_; refine RL.qa (oMove rfl rfl ev_a) ?_)
          first | (refine RL.skipA ?_) | (refine RL.wantA ?_; (first | (refine RL.qa (oConvI rfl rfl ev_a (wrap_i64 (by omega) (by omega))) ?_) | (refine RL.qa (oConvI rfl rfl ev_a (wrap_u64 (by omega) (by omega))) ?_) | (refine RL.qa (oConvI rfl rfl ev_a (wrap_u32 (by omega) (by omega))) ?_) | (refine RL.qa (oConvI rfl rfl ev_a (wrap_u8 (by omega) (by omega))) ?_) | (refine RL.qa (oStrOf rfl rfl ev_a (by rfl) (by first | rfl | assumption | (simp; first | done | fail))) ?_)))
          first | (refine RL.skipA ?_) | (refine RL.wantA ?_; refine RL.qa (oMove rfl rfl ev_a) ?_)
          first | (refine RL.skipA ?_) | (refine RL.wantA ?_; (first | (refine RL.qa (oConvI rfl rfl ev_a (wrap_i64 (by omega) (by omega))) ?_) | (refine RL.qa (oConvI rfl rfl ev_a (wrap_u64 (by omega) (by omega))) ?_) | (refine RL.qa (oConvI rfl rfl ev_a (wrap_u32 (by omega) (by omega))) ?_) | (refine RL.qa (oConvI rfl rfl ev_a (wrap_u8 (by omega) (by omega))) ?_) | (refine RL.qa (oStrOf rfl rfl ev_a (by rfl) (by first | rfl | assumption | (simp; first | done | fail))) ?_)))
          refine RL.wantA ?_
          refine RL.qa (oStr (v := .bool false) rfl rfl ev_a ev_a (by simp)) ?_
          first | (refine RL.qa (oPickT rfl rfl ev_a ev_a) ?_) | (refine RL.qa (oPickF rfl rfl ev_a ev_a) ?_)
          refine RL.done ?_
          refine hK _ ?_
          clear hK K
          (repeat refine lwp_seq_k fun K hK => ?_)
          refine lw_condF (by (first | (apply ev_tmp; ((repeat (apply Lk.there; focus rfl)); exact Lk.here)) | exact ev_cint | exact ev_cbool | exact ev_cnilp | exact ev_cnils | exact ev_func | exact ev_cstr | exact ev_cnilf | exact ev_cnili)) ?_
          refine lwp_skip ?_
          show inBlk 3 _ .normal _
          simp only [inBlk, thenL]
          refine hK _ ?_
          clear hK K
          (repeat refine lwp_seq_k fun K hK => ?_)
          refine lw_region ?_
          first | (refine RL.qa (oArith rfl rfl ev_a ev_a (by rfl) (by omega) (by omega)) ?_) | (refine RL.qa (oBin rfl rfl ev_a ev_a (by rfl)) ?_)
          refine RL.qa (oMove rfl rfl ev_a) ?_
          refine RL.done ?_
          exact ⟨_, _, (by omega : j - (i + 1) < j - i), (lessR_of [0, 1] [] rfl (by decide) (fun m hm => by first | omega | simp at hm) (by simp) (all_cons ⟨_, by ((repeat (apply Lk.there; focus rfl)); exact Lk.here), (by first | exact .eq rfl | exact .opI rfl | exact .osI rfl | exact .mpI rfl | exact .cv | exact .wk (.eq rfl) (Wk.junk _))⟩ (all_cons ⟨_, by ((repeat (apply Lk.there; focus rfl)); exact Lk.here), (by first | exact .eq rfl | exact .opI rfl | exact .osI rfl | exact .mpI rfl | exact .cv | exact .wk (.eq rfl) (Wk.junk _))⟩ (all_cons ⟨_, by ((repeat (apply Lk.there; focus rfl)); exact Lk.here), (by first | exact .eq rfl | exact .opI rfl | exact .osI rfl | exact .mpI rfl | exact .cv | exact .wk (.eq rfl) (Wk.junk _))⟩ (all_cons ⟨_, by ((repeat (apply Lk.there; focus rfl)); exact Lk.here), (by first | exact .eq rfl | exact .opI rfl | exact .osI rfl | exact .mpI rfl | exact .cv | exact .wk (.eq rfl) (Wk.junk _))⟩ all_nil)))) (all_cons ⟨_, _, by rfl, by rfl, (by first | exact slabS_tr rfl | exact slabL_tr | exact ⟨rfl, rfl, rfl, .cv⟩ | (refine ⟨rfl, rfl, rfl, ?_⟩; (repeat (refine TrL.cons (by first | exact .eq rfl | exact .opI rfl | exact .osI rfl | exact .mpI rfl | exact .cv | exact .wk (.eq rfl) (Wk.junk _)) ?_)); exact TrL.nil))⟩ (all_cons ⟨_, _, by rfl, by rfl, (by first | exact slabS_tr rfl | exact slabL_tr | exact ⟨rfl, rfl, rfl, .cv⟩ | (refine ⟨rfl, rfl, rfl, ?_⟩; (repeat (refine TrL.cons (by first | exact .eq rfl | exact .opI rfl | exact .osI rfl | exact .mpI rfl | exact .cv | exact .wk (.eq rfl) (Wk.junk _)) ?_)); exact TrL.nil))⟩ all_nil))), i + 1, rfl, by omega, rfl⟩
        · rw [if_neg hib]
          (repeat refine lwp_seq_k fun K hK => ?_)
          refine lw_region ?_
          refine RL.qa (oMove rfl rfl ev_a) ?_
          refine RL.qa (oMove rfl rfl ev_a) ?_
          refine RL.qa (oBin (v := .bool false) rfl rfl ev_a ev_a (by simp [binI]; omega)) ?_
          refine RL.done ?_
          refine hK _ ?_
          clear hK K
          (repeat refine lwp_seq_k fun K hK => ?_)
          refine lw_condF (by (first | (apply ev_tmp; ((repeat (apply Lk.there; focus rfl)); exact Lk.here)) | exact ev_cint | exact ev_cbool | exact ev_cnilp | exact ev_cnils | exact ev_func | exact ev_cstr | exact ev_cnilf | exact ev_cnili)) ?_
          refine lwp_skip (hK _ ?_)
          clear hK K
          (repeat refine lwp_seq_k fun K hK => ?_)
          refine lw_region ?_
          refine RL.qa (oMove rfl rfl ev_a) ?_
          first | (refine RL.qa (oBin rfl rfl ev_a ev_a (by rfl)) ?_) | (refine RL.qa (oStr rfl rfl ev_a ev_a (by rfl)) ?_)
          refine RL.qa (oMove rfl rfl ev_a) ?_
          first | (refine RL.skipA ?_) | (refine RL.wantA ?_; refine RL.qa (oMove rfl rfl ev_a) ?_)
          first | (refine RL.skipA ?_) | (refine RL.wantA ?_; (first | (refine RL.qa (oConvI rfl rfl ev_a (wrap_i64 (by omega) (by omega))) ?_) | (refine RL.qa (oConvI rfl rfl ev_a (wrap_u64 (by omega) (by omega))) ?_) | (refine RL.qa (oConvI rfl rfl ev_a (wrap_u32 (by omega) (by omega))) ?_) | (refine RL.qa (oConvI rfl rfl ev_a (wrap_u8 (by omega) (by omega))) ?_) | (refine RL.qa (oStrOf rfl rfl ev_a (by rfl) (by first | rfl | assumption | (simp; first | done | fail))) ?_)))
          first | (refine RL.skipA ?_) | (refine RL.wantA ?_; refine RL.qa (oMove rfl rfl ev_a) ?_)
          first | (refine RL.skipA ?_) | (refine RL.wantA ?_; (first | (refine RL.qa (oConvI rfl rfl ev_a (wrap_i64 (by omega) (by omega))) ?_) | (refine RL.qa (oConvI rfl rfl ev_a (wrap_u64 (by omega) (by omega))) ?_) | (refine RL.qa (oConvI rfl rfl ev_a (wrap_u32 (by omega) (by omega))) ?_) | (refine RL.qa (oConvI rfl rfl ev_a (wrap_u8 (by omega) (by omega))) ?_) | (refine RL.qa (oStrOf rfl rfl ev_a (by rfl) (by first | rfl | assumption | (simp; first | done | fail))) ?_)))
          refine RL.wantA ?_
          refine RL.qa (oStr (v := .bool false) rfl rfl ev_a ev_a (by simp)) ?_
          first | (refine RL.qa (oPickT rfl rfl ev_a ev_a) ?_) | (refine RL.qa (oPickF rfl rfl ev_a ev_a) ?_)
          refine RL.done ?_
          refine hK _ ?_
          clear hK K
          (repeat refine lwp_seq_k fun K hK => ?_)
          refine lw_condF (by (first | (apply ev_tmp; ((repeat (apply Lk.there; focus rfl)); exact Lk.here)) | exact ev_cint | exact ev_cbool | exact ev_cnilp | exact ev_cnils | exact ev_func | exact ev_cstr | exact ev_cnilf | exact ev_cnili)) ?_
          refine lwp_skip ?_
          show inBlk 3 _ .normal _
          simp only [inBlk, thenL]
          refine hK _ ?_
          clear hK K
          (repeat refine lwp_seq_k fun K hK => ?_)
          refine lw_region ?_
          first | (refine RL.qa (oArith rfl rfl ev_a ev_a (by rfl) (by omega) (by omega)) ?_) | (refine RL.qa (oBin rfl rfl ev_a ev_a (by rfl)) ?_)
          refine RL.qa (oMove rfl rfl ev_a) ?_
          refine RL.done ?_
          exact ⟨_, _, (by omega : j - (i + 1) < j - i), (lessR_of [0, 1] [] rfl (by decide) (fun m hm => by first | omega | simp at hm) (by simp) (all_cons ⟨_, by ((repeat (apply Lk.there; focus rfl)); exact Lk.here), (by first | exact .eq rfl | exact .opI rfl | exact .osI rfl | exact .mpI rfl | exact .cv | exact .wk (.eq rfl) (Wk.junk _))⟩ (all_cons ⟨_, by ((repeat (apply Lk.there; focus rfl)); exact Lk.here), (by first | exact .eq rfl | exact .opI rfl | exact .osI rfl | exact .mpI rfl | exact .cv | exact .wk (.eq rfl) (Wk.junk _))⟩ (all_cons ⟨_, by ((repeat (apply Lk.there; focus rfl)); exact Lk.here), (by first | exact .eq rfl | exact .opI rfl | exact .osI rfl | exact .mpI rfl | exact .cv | exact .wk (.eq rfl) (Wk.junk _))⟩ (all_cons ⟨_, by ((repeat (apply Lk.there; focus rfl)); exact Lk.here), (by first | exact .eq rfl | exact .opI rfl | exact .osI rfl | exact .mpI rfl | exact .cv | exact .wk (.eq rfl) (Wk.junk _))⟩ all_nil)))) (all_cons ⟨_, _, by rfl, by rfl, (by first | exact slabS_tr rfl | exact slabL_tr | exact ⟨rfl, rfl, rfl, .cv⟩ | (refine ⟨rfl, rfl, rfl, ?_⟩; (repeat (refine TrL.cons (by first | exact .eq rfl | exact .opI rfl | exact .osI rfl | exact .mpI rfl | exact .cv | exact .wk (.eq rfl) (Wk.junk _)) ?_)); exact TrL.nil))⟩ (all_cons ⟨_, _, by rfl, by rfl, (by first | exact slabS_tr rfl | exact slabL_tr | exact ⟨rfl, rfl, rfl, .cv⟩ | (refine ⟨rfl, rfl, rfl, ?_⟩; (repeat (refine TrL.cons (by first | exact .eq rfl | exact .opI rfl | exact .osI rfl | exact .mpI rfl | exact .cv | exact .wk (.eq rfl) (Wk.junk _)) ?_)); exact TrL.nil))⟩ all_nil))), i + 1, rfl, by omega, rfl⟩
      · obtain rfl : i = j := by omega
        (repeat refine lwp_seq_k fun K hK => ?_)
        refine lw_region ?_
        refine RL.qa (oBin (v := .bool false) rfl rfl ev_a ev_a (by simp [binI])) ?_
        refine RL.done ?_
        refine hK _ ?_
        clear hK K
        (repeat refine lwp_seq_k fun K hK => ?_)
        refine lw_condF (by (first | (apply ev_tmp; ((repeat (apply Lk.there; focus rfl)); exact Lk.here)) | exact ev_cint | exact ev_cbool | exact ev_cnilp | exact ev_cnils | exact ev_func | exact ev_cstr | exact ev_cnilf | exact ev_cnili)) ?_
        refine lwp_exit ?_
        simp only [thenL, inBlk, if_true]
        clear hK K
        refine hK _ ?_
        clear hK K
        have ho := out_ctr t5
        rw [out_endless he5] at ho
        have hi1 := ink_plain t5 hw5 1 9
        rw [show t5.ink 1 (plain 9) = (0, t5.struck.setInk 1 (plain 9)) from ink_endless (n := 1) he5 (by omega) (plain_len 9)] at hi1
        (repeat refine lwp_seq_k fun K hK => ?_)
        refine lw_region ?_
        refine RL.qa (oMove rfl rfl ev_a) ?_
        refine RL.wsa (oSlab 1 0 rfl rfl ev_a evs_a (ho) rfl rfl rfl (by rfl) rfl) ?_
        refine RL.qa (oNot rfl rfl ev_a) ?_
        refine RL.qa (oMove rfl rfl ev_a) ?_
        first | (refine RL.skipA ?_) | (refine RL.wantA ?_; refine RL.qa (oMove rfl rfl ev_a) ?_)
        first | (refine RL.skipA ?_) | (refine RL.wantA ?_; refine RL.qa (oCallC rfl rfl ev_a evs_a (plain9)) ?_)
        first | (refine RL.skipA ?_) | (refine RL.wantA ?_; refine RL.wsa (oSlab 1 0 rfl rfl ev_a evs_a (hi1) rfl rfl rfl (by rfl) rfl) ?_)
        first | (refine RL.skipA ?_) | (refine RL.wantA ?_; (first | (refine RL.qa (oBin rfl rfl ev_a ev_a (by rfl)) ?_) | (refine RL.qa (oStr rfl rfl ev_a ev_a (by rfl)) ?_)))
        first | (refine RL.qa (oPickT rfl rfl ev_a ev_a) ?_) | (refine RL.qa (oPickF rfl rfl ev_a ev_a) ?_)
        refine RL.qa (oAssign rfl rfl ev_a) ?_
        refine RL.done ?_
        refine hK _ ?_
        clear hK K
        exact lwp_ret ⟨.inr rfl, ret1c (r0 := .bool true) rfl (by ((repeat (apply Lk.there; focus rfl)); exact Lk.here))⟩
    · have h0 : ¬ (j < S ∧ bn = j) := fun h => by have := he0.2 h; cases this
      by_cases h1 : j < S
      · have h2 : bn ≠ j := fun h => h0 ⟨h1, h⟩
        (repeat refine lwp_seq_k fun K hK => ?_)
        refine lw_region ?_
        refine RL.qa (oMove rfl rfl ev_a) ?_
        refine RL.qa (oBin (v := .bool false) rfl rfl ev_a ev_a (by simp [binI])) ?_
        refine RL.qa (oMove rfl rfl ev_a) ?_
        refine RL.qa (oMove rfl rfl ev_a) ?_
        refine RL.qa (oBin (v := .bool true) rfl rfl ev_a ev_a (by simp [binI]; omega)) ?_
        refine RL.qa (oMove rfl rfl ev_a) ?_
        first | (refine RL.skipA ?_) | (refine RL.wantA ?_; refine RL.qa (oMove rfl rfl ev_a) ?_)
        first | (refine RL.skipA ?_) | (refine RL.wantA ?_; refine RL.qa (oMove rfl rfl ev_a) ?_)
        refine RL.wantA ?_
        refine RL.qa (oBin (v := .bool false) rfl rfl ev_a ev_a (by simp [binI]; omega)) ?_
        first | (refine RL.qa (oPickT rfl rfl ev_a ev_a) ?_) | (refine RL.qa (oPickF rfl rfl ev_a ev_a) ?_)
        refine RL.qa (oEqB (neg := true) (v := false) rfl rfl rfl ev_a ev_a (by rfl)) ?_
        refine RL.qa (oMove rfl rfl ev_a) ?_
        first | (refine RL.skipA ?_) | (refine RL.wantA ?_; refine RL.qa (oMove rfl rfl ev_a) ?_)
        refine RL.wantA ?_
        refine RL.qa (oBin (v := .bool true) rfl rfl ev_a ev_a (by simp [binI])) ?_
        first | (refine RL.skipA ?_) | (refine RL.wantA ?_; refine RL.qa (oMove rfl rfl ev_a) ?_)
        first | (refine RL.skipA ?_) | (refine RL.wantA ?_; refine RL.qa (oMove rfl rfl ev_a) ?_)
        refine RL.wantA ?_
        refine RL.qa (oBin (v := .bool false) rfl rfl ev_a ev_a (by simp [binI])) ?_
        first | (refine RL.skipA ?_) | (refine RL.wantA ?_; (first | (refine RL.qa (oPickT rfl rfl ev_a ev_a) ?_) | (refine RL.qa (oPickF rfl rfl ev_a ev_a) ?_)))
        first | (refine RL.qa (oPickT rfl rfl ev_a ev_a) ?_) | (refine RL.qa (oPickF rfl rfl ev_a ev_a) ?_)
        refine RL.qa (oMove rfl rfl ev_a) ?_
        first | (refine RL.skipA ?_) | (refine RL.wantA ?_; refine RL.qa (oMove rfl rfl ev_a) ?_)
        first | (refine RL.skipA ?_) | (refine RL.wantA ?_; refine RL.wsa (oSlab 1 0 rfl rfl ev_a evs_a (hcs) rfl rfl rfl (by rfl) rfl) ?_)
        first | (refine RL.skipA ?_) | (refine RL.wantA ?_; refine RL.qa (oMove rfl rfl ev_a) ?_)
        first | (refine RL.skipA ?_) | (refine RL.wantA ?_; refine RL.qa (oMove rfl rfl ev_a) ?_)
        first | (refine RL.skipA ?_) | (refine RL.wantA ?_; refine RL.qa (oMove rfl rfl ev_a) ?_)
        refine RL.wantA ?_
        refine RL.qa (oArith (r := ((j + bn : Nat) : Int)) rfl rfl ev_a ev_a (by simp [binI]) (by omega) (by omega)) ?_
        refine RL.wantA ?_
        refine RL.qa (oMM false (r := ((min S (j + bn) : Nat) : Int)) rfl rfl ev_a ev_a (by simp; omega)) ?_
        refine RL.wantA ?_
        refine RL.qa (oBin (v := .bool false) rfl rfl ev_a ev_a (by simp [binI])) ?_
        first | (refine RL.qa (oPickT rfl rfl ev_a ev_a) ?_) | (refine RL.qa (oPickF rfl rfl ev_a ev_a) ?_)
        refine RL.done ?_
        refine hK _ ?_
        clear hK K
        (repeat refine lwp_seq_k fun K hK => ?_)
        refine lw_condF (by (first | (apply ev_tmp; ((repeat (apply Lk.there; focus rfl)); exact Lk.here)) | exact ev_cint | exact ev_cbool | exact ev_cnilp | exact ev_cnils | exact ev_func | exact ev_cstr | exact ev_cnilf | exact ev_cnili)) ?_
        refine lwp_skip (hK _ ?_)
        clear hK K
        refine lwp_keep (TL' := [(0, _), (1, _), (5, _), (7, _)]) (HL' := [(0, _), (1, _)]) (all_cons (by ((repeat (apply Lk.there; focus rfl)); exact Lk.here)) (all_cons (by ((repeat (apply Lk.there; focus rfl)); exact Lk.here)) (all_cons (by ((repeat (apply Lk.there; focus rfl)); exact Lk.here)) (all_cons (by ((repeat (apply Lk.there; focus rfl)); exact Lk.here)) all_nil)))) (all_cons (by rfl) (all_cons (by rfl) all_nil)) ?_
        (repeat refine lwp_seq_k fun K hK => ?_)
        refine lw_region ?_
        refine RL.qa (oMove rfl rfl ev_a) ?_
        refine RL.wsa (oSlab 1 0 rfl rfl ev_a evs_a (wake_nil t hwt) rfl rfl rfl (by rfl) rfl) ?_
        refine RL.done ?_
        refine hK _ ?_
        clear hK K
        have hw5 := wake_wf hwt []
        have hl5 : (t.wake []).l.length = 64 := by rw [wake_len, htl]
        have he5 : (t.wake []).endless = true := rfl
        generalize t.wake [] = t5 at *
        (repeat refine lwp_seq_k fun K hK => ?_)
        refine lw_region ?_
        refine RL.qa (oMove rfl rfl ev_a) ?_
        refine RL.qa (oMove rfl rfl ev_a) ?_
        refine RL.done ?_
        refine hK _ ?_
        clear hK K
        (repeat refine lwp_seq_k fun K hK => ?_)
        refine lwp_block ?_
        refine lwp_loopR (fun q st => ∃ (i : Nat), q = j - i ∧ i ≤ j ∧ st = St' [(5, .op 1 0 0), (7, .int .i64 bn), (88, .int .i64 j), (89, .int .i64 i)] [(0, slabL t5), (1, slabS 0 t5)] 2) j _
          (lessR_of [0, 1] [] rfl (by decide) (fun m hm => by first | omega | simp at hm) (by simp) (all_cons ⟨_, by ((repeat (apply Lk.there; focus rfl)); exact Lk.here), (by first | exact .eq rfl | exact .opI rfl | exact .osI rfl | exact .mpI rfl | exact .cv | exact .wk (.eq rfl) (Wk.junk _))⟩ (all_cons ⟨_, by ((repeat (apply Lk.there; focus rfl)); exact Lk.here), (by first | exact .eq rfl | exact .opI rfl | exact .osI rfl | exact .mpI rfl | exact .cv | exact .wk (.eq rfl) (Wk.junk _))⟩ (all_cons ⟨_, by ((repeat (apply Lk.there; focus rfl)); exact Lk.here), (by first | exact .eq rfl | exact .opI rfl | exact .osI rfl | exact .mpI rfl | exact .cv | exact .wk (.eq rfl) (Wk.junk _))⟩ (all_cons ⟨_, by ((repeat (apply Lk.there; focus rfl)); exact Lk.here), (by first | exact .eq rfl | exact .opI rfl | exact .osI rfl | exact .mpI rfl | exact .cv | exact .wk (.eq rfl) (Wk.junk _))⟩ all_nil)))) (all_cons ⟨_, _, by rfl, by rfl, (by first | exact slabS_tr rfl | exact slabL_tr | exact ⟨rfl, rfl, rfl, .cv⟩ | (refine ⟨rfl, rfl, rfl, ?_⟩; (repeat (refine TrL.cons (by first | exact .eq rfl | exact .opI rfl | exact .osI rfl | exact .mpI rfl | exact .cv | exact .wk (.eq rfl) (Wk.junk _)) ?_)); exact TrL.nil))⟩ (all_cons ⟨_, _, by rfl, by rfl, (by first | exact slabS_tr rfl | exact slabL_tr | exact ⟨rfl, rfl, rfl, .cv⟩ | (refine ⟨rfl, rfl, rfl, ?_⟩; (repeat (refine TrL.cons (by first | exact .eq rfl | exact .opI rfl | exact .osI rfl | exact .mpI rfl | exact .cv | exact .wk (.eq rfl) (Wk.junk _)) ?_)); exact TrL.nil))⟩ all_nil))) ⟨0, rfl, Nat.zero_le _, rfl⟩ ?_
        rintro q _ ⟨i, rfl, hi, rfl⟩
        by_cases hlt : i < j
        · have hlk : t5.lookE i = 0 := look_endless he5 (by omega) (by omega)
          have hfc := hface i (by omega)
          (repeat refine lwp_seq_k fun K hK => ?_)
          refine lw_region ?_
          refine RL.qa (oBin (v := .bool true) rfl rfl ev_a ev_a (by simp [binI]; omega)) ?_
          refine RL.done ?_
          refine hK _ ?_
          clear hK K
          (repeat refine lwp_seq_k fun K hK => ?_)
          refine lw_condT (by (first | (apply ev_tmp; ((repeat (apply Lk.there; focus rfl)); exact Lk.here)) | exact ev_cint | exact ev_cbool | exact ev_cnilp | exact ev_cnils | exact ev_func | exact ev_cstr | exact ev_cnilf | exact ev_cnili)) ?_
          refine lwp_skip (hK _ ?_)
          clear hK K
          (repeat refine lwp_seq_k fun K hK => ?_)
          refine lwp_block ?_
          (repeat refine lwp_seq_k fun K hK => ?_)
          refine lw_region ?_
          refine RL.qa (oMove rfl rfl ev_a) ?_
          refine RL.qa (oAssign rfl rfl ev_a) ?_
          refine RL.done ?_
          refine hK _ ?_
          clear hK K
          (repeat refine lwp_seq_k fun K hK => ?_)
          refine lw_region ?_
          refine RL.qa (oMove rfl rfl ev_a) ?_
          refine RL.qa (oMove rfl rfl ev_a) ?_
          refine RL.wsa (oSlab 1 0 rfl rfl ev_a evs_a (face_ok t5 i hw5 hlk) rfl rfl rfl (by rfl) rfl) ?_
          refine RL.qa (oMove rfl rfl ev_a) ?_
          refine RL.qa (oExtract rfl rfl ev_a (by rfl)) ?_
          refine RL.qa (oExtract rfl rfl ev_a (by rfl)) ?_
          refine RL.qa (oAssign rfl rfl ev_a) ?_
          refine RL.qa (oAssign rfl rfl ev_a) ?_
          refine RL.done ?_
          refine hK _ ?_
          clear hK K
          rw [show t5.face (Int.toNat i) = _ from hfc]
          (repeat refine lwp_seq_k fun K hK => ?_)
          refine lw_region ?_
          refine RL.qa (oCallC rfl rfl ev_a evs_a (plain0)) ?_
          refine RL.qa (oAssign rfl rfl ev_a) ?_
          refine RL.done ?_
          refine hK _ ?_
          clear hK K
          by_cases hib : i < bn
          · rw [if_pos hib]
            (repeat refine lwp_seq_k fun K hK => ?_)
            refine lw_region ?_
            refine RL.qa (oMove rfl rfl ev_a) ?_
            refine RL.qa (oMove rfl rfl ev_a) ?_
            refine RL.qa (oBin (v := .bool true) rfl rfl ev_a ev_a (by simp [binI]; omega)) ?_
            refine RL.done ?_
            refine hK _ ?_
            clear hK K
            (repeat refine lwp_seq_k fun K hK => ?_)
            refine lw_condT (by (first | (apply ev_tmp; ((repeat (apply Lk.there; focus rfl)); exact Lk.here)) | exact ev_cint | exact ev_cbool | exact ev_cnilp | exact ev_cnils | exact ev_func | exact ev_cstr | exact ev_cnilf | exact ev_cnili)) ?_
            (repeat refine lwp_seq_k fun K hK => ?_)
            refine lw_region ?_
            refine RL.qa (oMove rfl rfl ev_a) ?_
            first | (refine RL.qa (oArith rfl rfl ev_a ev_a (by rfl) (by omega) (by omega)) ?_) | (refine RL.qa (oBin rfl rfl ev_a ev_a (by rfl)) ?_)
            first | (refine RL.qa (oConvI rfl rfl ev_a (wrap_i64 (by omega) (by omega))) ?_) | (refine RL.qa (oConvI rfl rfl ev_a (wrap_u64 (by omega) (by omega))) ?_) | (refine RL.qa (oConvI rfl rfl ev_a (wrap_u32 (by omega) (by omega))) ?_) | (refine RL.qa (oConvI rfl rfl ev_a (wrap_u8 (by omega) (by omega))) ?_) | (refine RL.qa (oStrOf rfl rfl ev_a (by rfl) (by first | rfl | assumption | (simp; first | done | fail))) ?_)
            refine RL.qa (oCallC rfl rfl ev_a evs_a (pl_ctr (i := i) (by omega))) ?_
            refine RL.qa (oAssign rfl rfl ev_a) ?_
            refine RL.done ?_
            refine hK _ ?_
            clear hK K
            (repeat refine lwp_seq_k fun K hK => ?_)
            refine lw_region ?_
            refine RL.qa (oMove rfl rfl ev_a) ?_
            first | (refine RL.qa (oBin rfl rfl ev_a ev_a (by rfl)) ?_) | (refine RL.qa (oStr rfl rfl ev_a ev_a (by rfl)) ?_)
            refine RL.qa (oMove rfl rfl ev_a) ?_
            first | (refine RL.skipA ?_) | (refine RL.wantA ?_; refine RL.qa (oMove rfl rfl ev_a) ?_)
            first | (refine RL.skipA ?_) | (refine RL.wantA ?_; (first | (refine RL.qa (oConvI rfl rfl ev_a (wrap_i64 (by omega) (by omega))) ?_) | (refine RL.qa (oConvI rfl rfl ev_a (wrap_u64 (by omega) (by omega))) ?_) | (refine RL.qa (oConvI rfl rfl ev_a (wrap_u32 (by omega) (by omega))) ?_) | (refine RL.qa (oConvI rfl rfl ev_a (wrap_u8 (by omega) (by omega))) ?_) | (refine RL.qa (oStrOf rfl rfl ev_a (by rfl) (by first | rfl | assumption | (simp; first | done | fail))) ?_)))
            first | (refine RL.skipA ?_) | (refine RL.wantA ?_; refine RL.qa (oMove rfl rfl ev_a) ?_)
            first | (refine RL.skipA ?_) | (refine RL.wantA ?_; (first | (refine RL.qa (oConvI rfl rfl ev_a (wrap_i64 (by omega) (by omega))) ?_) | (refine RL.qa (oConvI rfl rfl ev_a (wrap_u64 (by omega) (by omega))) ?_) | (refine RL.qa (oConvI rfl rfl ev_a (wrap_u32 (by omega) (by omega))) ?_) | (refine RL.qa (oConvI rfl rfl ev_a (wrap_u8 (by omega) (by omega))) ?_) | (refine RL.qa (oStrOf rfl rfl ev_a (by rfl) (by first | rfl | assumption | (simp; first | done | fail))) ?_)))
            refine RL.wantA ?_
            refine RL.qa (oStr (v := .bool false) rfl rfl ev_a ev_a (by simp)) ?_
            first | (refine RL.qa (oPickT rfl rfl ev_a ev_a) ?_) | (refine RL.qa (oPickF rfl rfl ev_a ev_a) ?_)
            refine RL.done ?_
            refine hK _ ?_
            clear hK K
            (repeat refine lwp_seq_k fun K hK => ?_)
            refine lw_condF (by (first | (apply ev_tmp; ((repeat (apply Lk.there; focus rfl)); exact Lk.here)) | exact ev_cint | exact ev_cbool | exact ev_cnilp | exact ev_cnils | exact ev_func | exact ev_cstr | exact ev_cnilf | exact ev_cnili)) ?_
            refine lwp_skip ?_
            show inBlk 3 _ .normal _
            simp only [inBlk, thenL]
            refine hK _ ?_
            clear hK K
            (repeat refine lwp_seq_k fun K hK => ?_)
            refine lw_region ?_
            first | (refine RL.qa (oArith rfl rfl ev_a ev_a (by rfl) (by omega) (by omega)) ?_) | (refine RL.qa (oBin rfl rfl ev_a ev_a (by rfl)) ?_)
            refine RL.qa (oMove rfl rfl ev_a) ?_
            refine RL.done ?_
            exact ⟨_, _, (by omega : j - (i + 1) < j - i), (lessR_of [0, 1] [] rfl (by decide) (fun m hm => by first | omega | simp at hm) (by simp) (all_cons ⟨_, by ((repeat (apply Lk.there; focus rfl)); exact Lk.here), (by first | exact .eq rfl | exact .opI rfl | exact .osI rfl | exact .mpI rfl | exact .cv | exact .wk (.eq rfl) (Wk.junk _))⟩ (all_cons ⟨_, by ((repeat (apply Lk.there; focus rfl)); exact Lk.here), (by first | exact .eq rfl | exact .opI rfl | exact .osI rfl | exact .mpI rfl | exact .cv | exact .wk (.eq rfl) (Wk.junk _))⟩ (all_cons ⟨_, by ((repeat (apply Lk.there; focus rfl)); exact Lk.here), (by first | exact .eq rfl | exact .opI rfl | exact .osI rfl | exact .mpI rfl | exact .cv | exact .wk (.eq rfl) (Wk.junk _))⟩ (all_cons ⟨_, by ((repeat (apply Lk.there; focus rfl)); exact Lk.here), (by first | exact .eq rfl | exact .opI rfl | exact .osI rfl | exact .mpI rfl | exact .cv | exact .wk (.eq rfl) (Wk.junk _))⟩ all_nil)))) (all_cons ⟨_, _, by rfl, by rfl, (by first | exact slabS_tr rfl | exact slabL_tr | exact ⟨rfl, rfl, rfl, .cv⟩ | (refine ⟨rfl, rfl, rfl, ?_⟩; (repeat (refine TrL.cons (by first | exact .eq rfl | exact .opI rfl | exact .osI rfl | exact .mpI rfl | exact .cv | exact .wk (.eq rfl) (Wk.junk _)) ?_)); exact TrL.nil))⟩ (all_cons ⟨_, _, by rfl, by rfl, (by first | exact slabS_tr rfl | exact slabL_tr | exact ⟨rfl, rfl, rfl, .cv⟩ | (refine ⟨rfl, rfl, rfl, ?_⟩; (repeat (refine TrL.cons (by first | exact .eq rfl | exact .opI rfl | exact .osI rfl | exact .mpI rfl | exact .cv | exact .wk (.eq rfl) (Wk.junk _)) ?_)); exact TrL.nil))⟩ all_nil))), i + 1, rfl, by omega, rfl⟩
          · rw [if_neg hib]
            (repeat refine lwp_seq_k fun K hK => ?_)
            refine lw_region ?_
            refine RL.qa (oMove rfl rfl ev_a) ?_
            refine RL.qa (oMove rfl rfl ev_a) ?_
            refine RL.qa (oBin (v := .bool false) rfl rfl ev_a ev_a (by simp [binI]; omega)) ?_
            refine RL.done ?_
            refine hK _ ?_
            clear hK K
            (repeat refine lwp_seq_k fun K hK => ?_)
            refine lw_condF (by (first | (apply ev_tmp; ((repeat (apply Lk.there; focus rfl)); exact Lk.here)) | exact ev_cint | exact ev_cbool | exact ev_cnilp | exact ev_cnils | exact ev_func | exact ev_cstr | exact ev_cnilf | exact ev_cnili)) ?_
            refine lwp_skip (hK _ ?_)
            clear hK K
            (repeat refine lwp_seq_k fun K hK => ?_)
            refine lw_region ?_
            refine RL.qa (oMove rfl rfl ev_a) ?_
            first | (refine RL.qa (oBin rfl rfl ev_a ev_a (by rfl)) ?_) | (refine RL.qa (oStr rfl rfl ev_a ev_a (by rfl)) ?_)
            refine RL.qa (oMove rfl rfl ev_a) ?_
            first | (refine RL.skipA ?_) | (refine RL.wantA ?_; refine RL.qa (oMove rfl rfl ev_a) ?_)
            first | (refine RL.skipA ?_) | (refine RL.wantA ?_; (first | (refine RL.qa (oConvI rfl rfl ev_a (wrap_i64 (by omega) (by omega))) ?_) | (refine RL.qa (oConvI rfl rfl ev_a (wrap_u64 (by omega) (by omega))) ?_) | (refine RL.qa (oConvI rfl rfl ev_a (wrap_u32 (by omega) (by omega))) ?_) | (refine RL.qa (oConvI rfl rfl ev_a (wrap_u8 (by omega) (by omega))) ?_) | (refine RL.qa (oStrOf rfl rfl ev_a (by rfl) (by first | rfl | assumption | (simp; first | done | fail))) ?_)))
            first | (refine RL.skipA ?_) | (refine RL.wantA ?_; refine RL.qa (oMove rfl rfl ev_a) ?_)
            first | (refine RL.skipA ?_) | (refine RL.wantA ?_; (first | (refine RL.qa (oConvI rfl rfl ev_a (wrap_i64 (by omega) (by omega))) ?_) | (refine RL.qa (oConvI rfl rfl ev_a (wrap_u64 (by omega) (by omega))) ?_) | (refine RL.qa (oConvI rfl rfl ev_a (wrap_u32 (by omega) (by omega))) ?_) | (refine RL.qa (oConvI rfl rfl ev_a (wrap_u8 (by omega) (by omega))) ?_) | (refine RL.qa (oStrOf rfl rfl ev_a (by rfl) (by first | rfl | assumption | (simp; first | done | fail))) ?_)))
            refine RL.wantA ?_
            refine RL.qa (oStr (v := .bool false) rfl rfl ev_a ev_a (by simp)) ?_
            first | (refine RL.qa (oPickT rfl rfl ev_a ev_a) ?_) | (refine RL.qa (oPickF rfl rfl ev_a ev_a) ?_)
            refine RL.done ?_
            refine hK _ ?_
            clear hK K
            (repeat refine lwp_seq_k fun K hK => ?_)
            refine lw_condF (by (first | (apply ev_tmp; ((repeat (apply Lk.there; focus rfl)); exact Lk.here)) | exact ev_cint | exact ev_cbool | exact ev_cnilp | exact ev_cnils | exact ev_func | exact ev_cstr | exact ev_cnilf | exact ev_cnili)) ?_
            refine lwp_skip ?_
            show inBlk 3 _ .normal _
            simp only [inBlk, thenL]
            refine hK _ ?_
            clear hK K
            (repeat refine lwp_seq_k fun K hK => ?_)
            refine lw_region ?_
            first | (refine RL.qa (oArith rfl rfl ev_a ev_a (by rfl) (by omega) (by omega)) ?_) | (refine RL.qa (oBin rfl rfl ev_a ev_a (by rfl)) ?_)
            refine RL.qa (oMove rfl rfl ev_a) ?_
            refine RL.done ?_
            exact ⟨_, _, (by omega : j - (i + 1) < j - i), (lessR_of [0, 1] [] rfl (by decide) (fun m hm => by first | omega | simp at hm) (by simp) (all_cons ⟨_, by ((repeat (apply Lk.there; focus rfl)); exact Lk.here), (by first | exact .eq rfl | exact .opI rfl | exact .osI rfl | exact .mpI rfl | exact .cv | exact .wk (.eq rfl) (Wk.junk _))⟩ (all_cons ⟨_, by ((repeat (apply Lk.there; focus rfl)); exact Lk.here), (by first | exact .eq rfl | exact .opI rfl | exact .osI rfl | exact .mpI rfl | exact .cv | exact .wk (.eq rfl) (Wk.junk _))⟩ (all_cons ⟨_, by ((repeat (apply Lk.there; focus rfl)); exact Lk.here), (by first | exact .eq rfl | exact .opI rfl | exact .osI rfl | exact .mpI rfl | exact .cv | exact .wk (.eq rfl) (Wk.junk _))⟩ (all_cons ⟨_, by ((repeat (apply Lk.there; focus rfl)); exact Lk.here), (by first | exact .eq rfl | exact .opI rfl | exact .osI rfl | exact .mpI rfl | exact .cv | exact .wk (.eq rfl) (Wk.junk _))⟩ all_nil)))) (all_cons ⟨_, _, by rfl, by rfl, (by first | exact slabS_tr rfl | exact slabL_tr | exact ⟨rfl, rfl, rfl, .cv⟩ | (refine ⟨rfl, rfl, rfl, ?_⟩; (repeat (refine TrL.cons (by first | exact .eq rfl | exact .opI rfl | exact .osI rfl | exact .mpI rfl | exact .cv | exact .wk (.eq rfl) (Wk.junk _)) ?_)); exact TrL.nil))⟩ (all_cons ⟨_, _, by rfl, by rfl, (by first | exact slabS_tr rfl | exact slabL_tr | exact ⟨rfl, rfl, rfl, .cv⟩ | (refine ⟨rfl, rfl, rfl, ?_⟩; (repeat (refine TrL.cons (by first | exact .eq rfl | exact .opI rfl | exact .osI rfl | exact .mpI rfl | exact .cv | exact .wk (.eq rfl) (Wk.junk _)) ?_)); exact TrL.nil))⟩ all_nil))), i + 1, rfl, by omega, rfl⟩
        · obtain rfl : i = j := by omega
          (repeat refine lwp_seq_k fun K hK => ?_)
          refine lw_region ?_
          refine RL.qa (oBin (v := .bool false) rfl rfl ev_a ev_a (by simp [binI])) ?_
          refine RL.done ?_
          refine hK _ ?_
          clear hK K
          (repeat refine lwp_seq_k fun K hK => ?_)
          refine lw_condF (by (first | (apply ev_tmp; ((repeat (apply Lk.there; focus rfl)); exact Lk.here)) | exact ev_cint | exact ev_cbool | exact ev_cnilp | exact ev_cnils | exact ev_func | exact ev_cstr | exact ev_cnilf | exact ev_cnili)) ?_
          refine lwp_exit ?_
          simp only [thenL, inBlk, if_true]
          clear hK K
          refine hK _ ?_
          clear hK K
          have ho := out_ctr t5
          rw [out_endless he5] at ho
          have hi1 := ink_plain t5 hw5 1 9
          rw [show t5.ink 1 (plain 9) = (0, t5.struck.setInk 1 (plain 9)) from ink_endless (n := 1) he5 (by omega) (plain_len 9)] at hi1
          (repeat refine lwp_seq_k fun K hK => ?_)
          refine lw_region ?_
          refine RL.qa (oMove rfl rfl ev_a) ?_
          refine RL.wsa (oSlab 1 0 rfl rfl ev_a evs_a (ho) rfl rfl rfl (by rfl) rfl) ?_
          refine RL.qa (oNot rfl rfl ev_a) ?_
          refine RL.qa (oMove rfl rfl ev_a) ?_
          first | (refine RL.skipA ?_) | (refine RL.wantA ?_; refine RL.qa (oMove rfl rfl ev_a) ?_)
          first | (refine RL.skipA ?_) | (refine RL.wantA ?_; refine RL.qa (oCallC rfl rfl ev_a evs_a (plain9)) ?_)
          first | (refine RL.skipA ?_) | (refine RL.wantA ?_; refine RL.wsa (oSlab 1 0 rfl rfl ev_a evs_a (hi1) rfl rfl rfl (by rfl) rfl) ?_)
          first | (refine RL.skipA ?_) | (refine RL.wantA ?_; (first | (refine RL.qa (oBin rfl rfl ev_a ev_a (by rfl)) ?_) | (refine RL.qa (oStr rfl rfl ev_a ev_a (by rfl)) ?_)))
          first | (refine RL.qa (oPickT rfl rfl ev_a ev_a) ?_) | (refine RL.qa (oPickF rfl rfl ev_a ev_a) ?_)
          refine RL.qa (oAssign rfl rfl ev_a) ?_
          refine RL.done ?_
          refine hK _ ?_
          clear hK K
          exact lwp_ret ⟨.inr rfl, ret1c (r0 := .bool true) rfl (by ((repeat (apply Lk.there; focus rfl)); exact Lk.here))⟩
      · (repeat refine lwp_seq_k fun K hK => ?_)
        refine lw_region ?_
        refine RL.qa (oMove rfl rfl ev_a) ?_
        refine RL.qa (oBin (v := .bool false) rfl rfl ev_a ev_a (by simp [binI])) ?_
        refine RL.qa (oMove rfl rfl ev_a) ?_
        refine RL.qa (oMove rfl rfl ev_a) ?_
        refine RL.qa (oBin (v := .bool false) rfl rfl ev_a ev_a (by simp [binI]; omega)) ?_
        refine RL.qa (oMove rfl rfl ev_a) ?_
        first | (refine RL.skipA ?_) | (refine RL.wantA ?_; refine RL.qa (oMove rfl rfl ev_a) ?_)
        first | (refine RL.skipA ?_) | (refine RL.wantA ?_; refine RL.qa (oMove rfl rfl ev_a) ?_)
        first | (refine RL.skipA ?_) | (refine RL.wantA ?_; (first | (refine RL.qa (oBin rfl rfl ev_a ev_a (by rfl)) ?_) | (refine RL.qa (oStr rfl rfl ev_a ev_a (by rfl)) ?_)))
        first | (refine RL.qa (oPickT rfl rfl ev_a ev_a) ?_) | (refine RL.qa (oPickF rfl rfl ev_a ev_a) ?_)
        refine RL.qa (oEqB (neg := true) (v := false) rfl rfl rfl ev_a ev_a (by rfl)) ?_
        refine RL.qa (oMove rfl rfl ev_a) ?_
        first | (refine RL.skipA ?_) | (refine RL.wantA ?_; refine RL.qa (oMove rfl rfl ev_a) ?_)
        refine RL.wantA ?_
        refine RL.qa (oBin (v := .bool true) rfl rfl ev_a ev_a (by simp [binI])) ?_
        first | (refine RL.skipA ?_) | (refine RL.wantA ?_; refine RL.qa (oMove rfl rfl ev_a) ?_)
        first | (refine RL.skipA ?_) | (refine RL.wantA ?_; refine RL.qa (oMove rfl rfl ev_a) ?_)
        refine RL.wantA ?_
        refine RL.qa (oBin (v := .bool false) rfl rfl ev_a ev_a (by simp [binI])) ?_
        first | (refine RL.skipA ?_) | (refine RL.wantA ?_; (first | (refine RL.qa (oPickT rfl rfl ev_a ev_a) ?_) | (refine RL.qa (oPickF rfl rfl ev_a ev_a) ?_)))
        first | (refine RL.qa (oPickT rfl rfl ev_a ev_a) ?_) | (refine RL.qa (oPickF rfl rfl ev_a ev_a) ?_)
        refine RL.qa (oMove rfl rfl ev_a) ?_
        first | (refine RL.skipA ?_) | (refine RL.wantA ?_; refine RL.qa (oMove rfl rfl ev_a) ?_)
        first | (refine RL.skipA ?_) | (refine RL.wantA ?_; refine RL.wsa (oSlab 1 0 rfl rfl ev_a evs_a (hcs) rfl rfl rfl (by rfl) rfl) ?_)
        first | (refine RL.skipA ?_) | (refine RL.wantA ?_; refine RL.qa (oMove rfl rfl ev_a) ?_)
        first | (refine RL.skipA ?_) | (refine RL.wantA ?_; refine RL.qa (oMove rfl rfl ev_a) ?_)
        first | (refine RL.skipA ?_) | (refine RL.wantA ?_; refine RL.qa (oMove rfl rfl ev_a) ?_)
        refine RL.wantA ?_
        refine RL.qa (oArith (r := ((j + bn : Nat) : Int)) rfl rfl ev_a ev_a (by simp [binI]) (by omega) (by omega)) ?_
        refine RL.wantA ?_
        refine RL.qa (oMM false (r := ((min S (j + bn) : Nat) : Int)) rfl rfl ev_a ev_a (by simp; omega)) ?_
        refine RL.wantA ?_
        refine RL.qa (oBin (v := .bool false) rfl rfl ev_a ev_a (by simp [binI])) ?_
        first | (refine RL.qa (oPickT rfl rfl ev_a ev_a) ?_) | (refine RL.qa (oPickF rfl rfl ev_a ev_a) ?_)
        refine RL.done ?_
        refine hK _ ?_
        clear hK K
        (repeat refine lwp_seq_k fun K hK => ?_)
        refine lw_condF (by (first | (apply ev_tmp; ((repeat (apply Lk.there; focus rfl)); exact Lk.here)) | exact ev_cint | exact ev_cbool | exact ev_cnilp | exact ev_cnils | exact ev_func | exact ev_cstr | exact ev_cnilf | exact ev_cnili)) ?_
        refine lwp_skip (hK _ ?_)
        clear hK K
        refine lwp_keep (TL' := [(0, _), (1, _), (5, _), (7, _)]) (HL' := [(0, _), (1, _)]) (all_cons (by ((repeat (apply Lk.there; focus rfl)); exact Lk.here)) (all_cons (by ((repeat (apply Lk.there; focus rfl)); exact Lk.here)) (all_cons (by ((repeat (apply Lk.there; focus rfl)); exact Lk.here)) (all_cons (by ((repeat (apply Lk.there; focus rfl)); exact Lk.here)) all_nil)))) (all_cons (by rfl) (all_cons (by rfl) all_nil)) ?_
        (repeat refine lwp_seq_k fun K hK => ?_)
        refine lw_region ?_
        refine RL.qa (oMove rfl rfl ev_a) ?_
        refine RL.wsa (oSlab 1 0 rfl rfl ev_a evs_a (wake_nil t hwt) rfl rfl rfl (by rfl) rfl) ?_
        refine RL.done ?_
        refine hK _ ?_
        clear hK K
        have hw5 := wake_wf hwt []
        have hl5 : (t.wake []).l.length = 64 := by rw [wake_len, htl]
        have he5 : (t.wake []).endless = true := rfl
        generalize t.wake [] = t5 at *
        (repeat refine lwp_seq_k fun K hK => ?_)
        refine lw_region ?_
        refine RL.qa (oMove rfl rfl ev_a) ?_
        refine RL.qa (oMove rfl rfl ev_a) ?_
        refine RL.done ?_
        refine hK _ ?_
        clear hK K
        (repeat refine lwp_seq_k fun K hK => ?_)
        refine lwp_block ?_
        refine lwp_loopR (fun q st => ∃ (i : Nat), q = j - i ∧ i ≤ j ∧ st = St' [(5, .op 1 0 0), (7, .int .i64 bn), (88, .int .i64 j), (89, .int .i64 i)] [(0, slabL t5), (1, slabS 0 t5)] 2) j _
          (lessR_of [0, 1] [] rfl (by decide) (fun m hm => by first | omega | simp at hm) (by simp) (all_cons ⟨_, by ((repeat (apply Lk.there; focus rfl)); exact Lk.here), (by first | exact .eq rfl | exact .opI rfl | exact .osI rfl | exact .mpI rfl | exact .cv | exact .wk (.eq rfl) (Wk.junk _))⟩ (all_cons ⟨_, by ((repeat (apply Lk.there; focus rfl)); exact Lk.here), (by first | exact .eq rfl | exact .opI rfl | exact .osI rfl | exact .mpI rfl | exact .cv | exact .wk (.eq rfl) (Wk.junk _))⟩ (all_cons ⟨_, by ((repeat (apply Lk.there; focus rfl)); exact Lk.here), (by first | exact .eq rfl | exact .opI rfl | exact .osI rfl | exact .mpI rfl | exact .cv | exact .wk (.eq rfl) (Wk.junk _))⟩ (all_cons ⟨_, by ((repeat (apply Lk.there; focus rfl)); exact Lk.here), (by first | exact .eq rfl | exact .opI rfl | exact .osI rfl | exact .mpI rfl | exact .cv | exact .wk (.eq rfl) (Wk.junk _))⟩ all_nil)))) (all_cons ⟨_, _, by rfl, by rfl, (by first | exact slabS_tr rfl | exact slabL_tr | exact ⟨rfl, rfl, rfl, .cv⟩ | (refine ⟨rfl, rfl, rfl, ?_⟩; (repeat (refine TrL.cons (by first | exact .eq rfl | exact .opI rfl | exact .osI rfl | exact .mpI rfl | exact .cv | exact .wk (.eq rfl) (Wk.junk _)) ?_)); exact TrL.nil))⟩ (all_cons ⟨_, _, by rfl, by rfl, (by first | exact slabS_tr rfl | exact slabL_tr | exact ⟨rfl, rfl, rfl, .cv⟩ | (refine ⟨rfl, rfl, rfl, ?_⟩; (repeat (refine TrL.cons (by first | exact .eq rfl | exact .opI rfl | exact .osI rfl | exact .mpI rfl | exact .cv | exact .wk (.eq rfl) (Wk.junk _)) ?_)); exact TrL.nil))⟩ all_nil))) ⟨0, rfl, Nat.zero_le _, rfl⟩ ?_
        rintro q _ ⟨i, rfl, hi, rfl⟩
        by_cases hlt : i < j
        · have hlk : t5.lookE i = 0 := look_endless he5 (by omega) (by omega)
          have hfc := hface i (by omega)
          (repeat refine lwp_seq_k fun K hK => ?_)
          refine lw_region ?_
          refine RL.qa (oBin (v := .bool true) rfl rfl ev_a ev_a (by simp [binI]; omega)) ?_
          refine RL.done ?_
          refine hK _ ?_
          clear hK K
          (repeat refine lwp_seq_k fun K hK => ?_)
          refine lw_condT (by (first | (apply ev_tmp; ((repeat (apply Lk.there; focus rfl)); exact Lk.here)) | exact ev_cint | exact ev_cbool | exact ev_cnilp | exact ev_cnils | exact ev_func | exact ev_cstr | exact ev_cnilf | exact ev_cnili)) ?_
          refine lwp_skip (hK _ ?_)
          clear hK K
          (repeat refine lwp_seq_k fun K hK => ?_)
          refine lwp_block ?_
          (repeat refine lwp_seq_k fun K hK => ?_)
          refine lw_region ?_
          refine RL.qa (oMove rfl rfl ev_a) ?_
          refine RL.qa (oAssign rfl rfl ev_a) ?_
          refine RL.done ?_
          refine hK _ ?_
          clear hK K
          (repeat refine lwp_seq_k fun K hK => ?_)
          refine lw_region ?_
          refine RL.qa (oMove rfl rfl ev_a) ?_
          refine RL.qa (oMove rfl rfl ev_a) ?_
          refine RL.wsa (oSlab 1 0 rfl rfl ev_a evs_a (face_ok t5 i hw5 hlk) rfl rfl rfl (by rfl) rfl) ?_
          refine RL.qa (oMove rfl rfl ev_a) ?_
          refine RL.qa (oExtract rfl rfl ev_a (by rfl)) ?_
          refine RL.qa (oExtract rfl rfl ev_a (by rfl)) ?_
          refine RL.qa (oAssign rfl rfl ev_a) ?_
          refine RL.qa (oAssign rfl rfl ev_a) ?_
          refine RL.done ?_
          refine hK _ ?_
          clear hK K
          rw [show t5.face (Int.toNat i) = _ from hfc]
          (repeat refine lwp_seq_k fun K hK => ?_)
          refine lw_region ?_
          refine RL.qa (oCallC rfl rfl ev_a evs_a (plain0)) ?_
          refine RL.qa (oAssign rfl rfl ev_a) ?_
          refine RL.done ?_
          refine hK _ ?_
          clear hK K
          by_cases hib : i < bn
          · rw [if_pos hib]
            (repeat refine lwp_seq_k fun K hK => ?_)
            refine lw_region ?_
            refine RL.qa (oMove rfl rfl ev_a) ?_
            refine RL.qa (oMove rfl rfl ev_a) ?_
            refine RL.qa (oBin (v := .bool true) rfl rfl ev_a ev_a (by simp [binI]; omega)) ?_
            refine RL.done ?_
            refine hK _ ?_
            clear hK K
            (repeat refine lwp_seq_k fun K hK => ?_)
            refine lw_condT (by (first | (apply ev_tmp; ((repeat (apply Lk.there; focus rfl)); exact Lk.here)) | exact ev_cint | exact ev_cbool | exact ev_cnilp | exact ev_cnils | exact ev_func | exact ev_cstr | exact ev_cnilf | exact ev_cnili)) ?_
            (repeat refine lwp_seq_k fun K hK => ?_)
            refine lw_region ?_
            refine RL.qa (oMove rfl rfl ev_a) ?_
            first | (refine RL.qa (oArith rfl rfl ev_a ev_a (by rfl) (by omega) (by omega)) ?_) | (refine RL.qa (oBin rfl rfl ev_a ev_a (by rfl)) ?_)
            first | (refine RL.qa (oConvI rfl rfl ev_a (wrap_i64 (by omega) (by omega))) ?_) | (refine RL.qa (oConvI rfl rfl ev_a (wrap_u64 (by omega) (by omega))) ?_) | (refine RL.qa (oConvI rfl rfl ev_a (wrap_u32 (by omega) (by omega))) ?_) | (refine RL.qa (oConvI rfl rfl ev_a (wrap_u8 (by omega) (by omega))) ?_) | (refine RL.qa (oStrOf rfl rfl ev_a (by rfl) (by first | rfl | assumption | (simp; first | done | fail))) ?_)
            refine RL.qa (oCallC rfl rfl ev_a evs_a (pl_ctr (i := i) (by omega))) ?_
            refine RL.qa (oAssign rfl rfl ev_a) ?_
            refine RL.done ?_
            refine hK _ ?_
            clear hK K
            (repeat refine lwp_seq_k fun K hK => ?_)
            refine lw_region ?_
            refine RL.qa (oMove rfl rfl ev_a) ?_
            first | (refine RL.qa (oBin rfl rfl ev_a ev_a (by rfl)) ?_) | (refine RL.qa (oStr rfl rfl ev_a ev_a (by rfl)) ?_)
            refine RL.qa (oMove rfl rfl ev_a) ?_
            first | (refine RL.skipA ?_) | (refine RL.wantA ?_; refine RL.qa (oMove rfl rfl ev_a) ?_)
            first | (refine RL.skipA ?_) | (refine RL.wantA ?_; (first | (refine RL.qa (oConvI rfl rfl ev_a (wrap_i64 (by omega) (by omega))) ?_) | (refine RL.qa (oConvI rfl rfl ev_a (wrap_u64 (by omega) (by omega))) ?_) | (refine RL.qa (oConvI rfl rfl ev_a (wrap_u32 (by omega) (by omega))) ?_) | (refine RL.qa (oConvI rfl rfl ev_a (wrap_u8 (by omega) (by omega))) ?_) | (refine RL.qa (oStrOf rfl rfl ev_a (by rfl) (by first | rfl | assumption | (simp; first | done | fail))) ?_)))
            first | (refine RL.skipA ?_) | (refine RL.wantA ?_; refine RL.qa (oMove rfl rfl ev_a) ?_)
            first | (refine RL.skipA ?_) | (refine RL.wantA ?_; (first | (refine RL.qa (oConvI rfl rfl ev_a (wrap_i64 (by omega) (by omega))) ?_) | (refine RL.qa (oConvI rfl rfl ev_a (wrap_u64 (by omega) (by omega))) ?_) | (refine RL.qa (oConvI rfl rfl ev_a (wrap_u32 (by omega) (by omega))) ?_) | (refine RL.qa (oConvI rfl rfl ev_a (wrap_u8 (by omega) (by omega))) ?_) | (refine RL.qa (oStrOf rfl rfl ev_a (by rfl) (by first | rfl | assumption | (simp; first | done | fail))) ?_)))
            refine RL.wantA ?_
            refine RL.qa (oStr (v := .bool false) rfl rfl ev_a ev_a (by simp)) ?_
            first | (refine RL.qa (oPickT rfl rfl ev_a ev_a) ?_) | (refine RL.qa (oPickF rfl rfl ev_a ev_a) ?_)
            refine RL.done ?_
            refine hK _ ?_
            clear hK K
            (repeat refine lwp_seq_k fun K hK => ?_)
            refine lw_condF (by (first | (apply ev_tmp; ((repeat (apply Lk.there; focus rfl)); exact Lk.here)) | exact ev_cint | exact ev_cbool | exact ev_cnilp | exact ev_cnils | exact ev_func | exact ev_cstr | exact ev_cnilf | exact ev_cnili)) ?_
            refine lwp_skip ?_
            show inBlk 3 _ .normal _
            simp only [inBlk, thenL]
            refine hK _ ?_
            clear hK K
            (repeat refine lwp_seq_k fun K hK => ?_)
            refine lw_region ?_
            first | (refine RL.qa (oArith rfl rfl ev_a ev_a (by rfl) (by omega) (by omega)) ?_) | (refine RL.qa (oBin rfl rfl ev_a ev_a (by rfl)) ?_)
            refine RL.qa (oMove rfl rfl ev_a) ?_
            refine RL.done ?_
            exact ⟨_, _, (by omega : j - (i + 1) < j - i), (lessR_of [0, 1] [] rfl (by decide) (fun m hm => by first | omega | simp at hm) (by simp) (all_cons ⟨_, by ((repeat (apply Lk.there; focus rfl)); exact Lk.here), (by first | exact .eq rfl | exact .opI rfl | exact .osI rfl | exact .mpI rfl | exact .cv | exact .wk (.eq rfl) (Wk.junk _))⟩ (all_cons ⟨_, by ((repeat (apply Lk.there; focus rfl)); exact Lk.here), (by first | exact .eq rfl | exact .opI rfl | exact .osI rfl | exact .mpI rfl | exact .cv | exact .wk (.eq rfl) (Wk.junk _))⟩ (all_cons ⟨_, by ((repeat (apply Lk.there; focus rfl)); exact Lk.here), (by first | exact .eq rfl | exact .opI rfl | exact .osI rfl | exact .mpI rfl | exact .cv | exact .wk (.eq rfl) (Wk.junk _))⟩ (all_cons ⟨_, by ((repeat (apply Lk.there; focus rfl)); exact Lk.here), (by first | exact .eq rfl | exact .opI rfl | exact .osI rfl | exact .mpI rfl | exact .cv | exact .wk (.eq rfl) (Wk.junk _))⟩ all_nil)))) (all_cons ⟨_, _, by rfl, by rfl, (by first | exact slabS_tr rfl | exact slabL_tr | exact ⟨rfl, rfl, rfl, .cv⟩ | (refine ⟨rfl, rfl, rfl, ?_⟩; (repeat (refine TrL.cons (by first | exact .eq rfl | exact .opI rfl | exact .osI rfl | exact .mpI rfl | exact .cv | exact .wk (.eq rfl) (Wk.junk _)) ?_)); exact TrL.nil))⟩ (all_cons ⟨_, _, by rfl, by rfl, (by first | exact slabS_tr rfl | exact slabL_tr | exact ⟨rfl, rfl, rfl, .cv⟩ | (refine ⟨rfl, rfl, rfl, ?_⟩; (repeat (refine TrL.cons (by first | exact .eq rfl | exact .opI rfl | exact .osI rfl | exact .mpI rfl | exact .cv | exact .wk (.eq rfl) (Wk.junk _)) ?_)); exact TrL.nil))⟩ all_nil))), i + 1, rfl, by omega, rfl⟩
          · rw [if_neg hib]
            (repeat refine lwp_seq_k fun K hK => ?_)
            refine lw_region ?_
            refine RL.qa (oMove rfl rfl ev_a) ?_
            refine RL.qa (oMove rfl rfl ev_a) ?_
            refine RL.qa (oBin (v := .bool false) rfl rfl ev_a ev_a (by simp [binI]; omega)) ?_
            refine RL.done ?_
            refine hK _ ?_
            clear hK K
            (repeat refine lwp_seq_k fun K hK => ?_)
            refine lw_condF (by (first | (apply ev_tmp; ((repeat (apply Lk.there; focus rfl)); exact Lk.here)) | exact ev_cint | exact ev_cbool | exact ev_cnilp | exact ev_cnils | exact ev_func | exact ev_cstr | exact ev_cnilf | exact ev_cnili)) ?_
            refine lwp_skip (hK _ ?_)
            clear hK K
            (repeat refine lwp_seq_k fun K hK => ?_)
            refine lw_region ?_
            refine RL.qa (oMove rfl rfl ev_a) ?_
            first | (refine RL.qa (oBin rfl rfl ev_a ev_a (by rfl)) ?_) | (refine RL.qa (oStr rfl rfl ev_a ev_a (by rfl)) ?_)
            refine RL.qa (oMove rfl rfl ev_a) ?_
            first | (refine RL.skipA ?_) | (refine RL.wantA ?_; refine RL.qa (oMove rfl rfl ev_a) ?_)
            first | (refine RL.skipA ?_) | (refine RL.wantA ?_; (first | (refine RL.qa (oConvI rfl rfl ev_a (wrap_i64 (by omega) (by omega))) ?_) | (refine RL.qa (oConvI rfl rfl ev_a (wrap_u64 (by omega) (by omega))) ?_) | (refine RL.qa (oConvI rfl rfl ev_a (wrap_u32 (by omega) (by omega))) ?_) | (refine RL.qa (oConvI rfl rfl ev_a (wrap_u8 (by omega) (by omega))) ?_) | (refine RL.qa (oStrOf rfl rfl ev_a (by rfl) (by first | rfl | assumption | (simp; first | done | fail))) ?_)))
            first | (refine RL.skipA ?_) | (refine RL.wantA ?_; refine RL.qa (oMove rfl rfl ev_a) ?_)
            first | (refine RL.skipA ?_) | (refine RL.wantA ?_; (first | (refine RL.qa (oConvI rfl rfl ev_a (wrap_i64 (by omega) (by omega))) ?_) | (refine RL.qa (oConvI rfl rfl ev_a (wrap_u64 (by omega) (by omega))) ?_) | (refine RL.qa (oConvI rfl rfl ev_a (wrap_u32 (by omega) (by omega))) ?_) | (refine RL.qa (oConvI rfl rfl ev_a (wrap_u8 (by omega) (by omega))) ?_) | (refine RL.qa (oStrOf rfl rfl ev_a (by rfl) (by first | rfl | assumption | (simp; first | done | fail))) ?_)))
            refine RL.wantA ?_
            refine RL.qa (oStr (v := .bool false) rfl rfl ev_a ev_a (by simp)) ?_
            first | (refine RL.qa (oPickT rfl rfl ev_a ev_a) ?_) | (refine RL.qa (oPickF rfl rfl ev_a ev_a) ?_)
            refine RL.done ?_
            refine hK _ ?_
            clear hK K
            (repeat refine lwp_seq_k fun K hK => ?_)
            refine lw_condF (by (first | (apply ev_tmp; ((repeat (apply Lk.there; focus rfl)); exact Lk.here)) | exact ev_cint | exact ev_cbool | exact ev_cnilp | exact ev_cnils | exact ev_func | exact ev_cstr | exact ev_cnilf | exact ev_cnili)) ?_
            refine lwp_skip ?_
            show inBlk 3 _ .normal _
            simp only [inBlk, thenL]
            refine hK _ ?_
            clear hK K
            (repeat refine lwp_seq_k fun K hK => ?_)
            refine lw_region ?_
            first | (refine RL.qa (oArith rfl rfl ev_a ev_a (by rfl) (by omega) (by omega)) ?_) | (refine RL.qa (oBin rfl rfl ev_a ev_a (by rfl)) ?_)
            refine RL.qa (oMove rfl rfl ev_a) ?_
            refine RL.done ?_
            exact ⟨_, _, (by omega : j - (i + 1) < j - i), (lessR_of [0, 1] [] rfl (by decide) (fun m hm => by first | omega | simp at hm) (by simp) (all_cons ⟨_, by ((repeat (apply Lk.there; focus rfl)); exact Lk.here), (by first | exact .eq rfl | exact .opI rfl | exact .osI rfl | exact .mpI rfl | exact .cv | exact .wk (.eq rfl) (Wk.junk _))⟩ (all_cons ⟨_, by ((repeat (apply Lk.there; focus rfl)); exact Lk.here), (by first | exact .eq rfl | exact .opI rfl | exact .osI rfl | exact .mpI rfl | exact .cv | exact .wk (.eq rfl) (Wk.junk _))⟩ (all_cons ⟨_, by ((repeat (apply Lk.there; focus rfl)); exact Lk.here), (by first | exact .eq rfl | exact .opI rfl | exact .osI rfl | exact .mpI rfl | exact .cv | exact .wk (.eq rfl) (Wk.junk _))⟩ (all_cons ⟨_, by ((repeat (apply Lk.there; focus rfl)); exact Lk.here), (by first | exact .eq rfl | exact .opI rfl | exact .osI rfl | exact .mpI rfl | exact .cv | exact .wk (.eq rfl) (Wk.junk _))⟩ all_nil)))) (all_cons ⟨_, _, by rfl, by rfl, (by first | exact slabS_tr rfl | exact slabL_tr | exact ⟨rfl, rfl, rfl, .cv⟩ | (refine ⟨rfl, rfl, rfl, ?_⟩; (repeat (refine TrL.cons (by first | exact .eq rfl | exact .opI rfl | exact .osI rfl | exact .mpI rfl | exact .cv | exact .wk (.eq rfl) (Wk.junk _)) ?_)); exact TrL.nil))⟩ (all_cons ⟨_, _, by rfl, by rfl, (by first | exact slabS_tr rfl | exact slabL_tr | exact ⟨rfl, rfl, rfl, .cv⟩ | (refine ⟨rfl, rfl, rfl, ?_⟩; (repeat (refine TrL.cons (by first | exact .eq rfl | exact .opI rfl | exact .osI rfl | exact .mpI rfl | exact .cv | exact .wk (.eq rfl) (Wk.junk _)) ?_)); exact TrL.nil))⟩ all_nil))), i + 1, rfl, by omega, rfl⟩
        · obtain rfl : i = j := by omega
          (repeat refine lwp_seq_k fun K hK => ?_)
          refine lw_region ?_
          refine RL.qa (oBin (v := .bool false) rfl rfl ev_a ev_a (by simp [binI])) ?_
          refine RL.done ?_
          refine hK _ ?_
          clear hK K
          (repeat refine lwp_seq_k fun K hK => ?_)
          refine lw_condF (by (first | (apply ev_tmp; ((repeat (apply Lk.there; focus rfl)); exact Lk.here)) | exact ev_cint | exact ev_cbool | exact ev_cnilp | exact ev_cnils | exact ev_func | exact ev_cstr | exact ev_cnilf | exact ev_cnili)) ?_
          refine lwp_exit ?_
          simp only [thenL, inBlk, if_true]
          clear hK K
          refine hK _ ?_
          clear hK K
          have ho := out_ctr t5
          rw [out_endless he5] at ho
          have hi1 := ink_plain t5 hw5 1 9
          rw [show t5.ink 1 (plain 9) = (0, t5.struck.setInk 1 (plain 9)) from ink_endless (n := 1) he5 (by omega) (plain_len 9)] at hi1
          (repeat refine lwp_seq_k fun K hK => ?_)
          refine lw_region ?_
          refine RL.qa (oMove rfl rfl ev_a) ?_
          refine RL.wsa (oSlab 1 0 rfl rfl ev_a evs_a (ho) rfl rfl rfl (by rfl) rfl) ?_
          refine RL.qa (oNot rfl rfl ev_a) ?_
          refine RL.qa (oMove rfl rfl ev_a) ?_
          first | (refine RL.skipA ?_) | (refine RL.wantA ?_; refine RL.qa (oMove rfl rfl ev_a) ?_)
          first | (refine RL.skipA ?_) | (refine RL.wantA ?_; refine RL.qa (oCallC rfl rfl ev_a evs_a (plain9)) ?_)
          first | (refine RL.skipA ?_) | (refine RL.wantA ?_; refine RL.wsa (oSlab 1 0 rfl rfl ev_a evs_a (hi1) rfl rfl rfl (by rfl) rfl) ?_)
          first | (refine RL.skipA ?_) | (refine RL.wantA ?_; (first | (refine RL.qa (oBin rfl rfl ev_a ev_a (by rfl)) ?_) | (refine RL.qa (oStr rfl rfl ev_a ev_a (by rfl)) ?_)))
          first | (refine RL.qa (oPickT rfl rfl ev_a ev_a) ?_) | (refine RL.qa (oPickF rfl rfl ev_a ev_a) ?_)
          refine RL.qa (oAssign rfl rfl ev_a) ?_
          refine RL.done ?_
          refine hK _ ?_
          clear hK K
          exact lwp_ret ⟨.inr rfl, ret1c (r0 := .bool true) rfl (by ((repeat (apply Lk.there; focus rfl)); exact Lk.here))⟩
end Go.Proofs.Ythnjhhohfhnhgaa
