/- The keys of a map that is only read, handed over by maps.Keys. -/
import Derived.Test.YthnjhhohfhnhgaaTy
import Derived.Test.YthnjhhohfhnhgaaPvRange
import Derived.LoopIn
import Derived.BigFrameIn
import Derived.Maps.RangeRun
import Derived.WalkKit
import Derived.Deep.Quiet
namespace Go.Proofs.Ythnjhhohfhnhgaa
open Go Go.RowKit
set_option maxRecDepth 10000

theorem run_range_rm {P : Program} {t kt et : TypeId} {s b : Nat} [ht : Ty P t (.map kt et) s b] {w : World} {k : Nat} {es : Array MapEntry} {cl : Nat} (hm : w.heap[k]? = some (.map es cl)) :
    (Instr.range t (.map (some k))).run P w = .ok (.pointer (some ⟨w.heap.size, 0, none⟩)) (w.alloc (.mapIter (some k) cl #[] cl)) := by
  simp [Instr.range, run_underlying ht.und, MapKept.run_getObj_map hm, Result.andThen, run_newObj_alloc]
theorem countP_lt {p p' : Nat → Bool} (h : ∀ j, p' j = true → p j = true) {i : Nat} (hi : p i = true) (hi' : p' i = false) : ∀ L : List Nat, i ∈ L → L.countP p' < L.countP p
  | [], h0 => by cases h0
  | j :: L, h0 => by
    rw [List.countP_cons, List.countP_cons]
    have hle : L.countP p' ≤ L.countP p := List.countP_mono_left fun j _ hj => h j hj
    rcases List.mem_cons.1 h0 with rfl | h1
    · rw [hi, hi']; simp; omega
    · have := countP_lt h hi hi' L h1
      have h2 : (if p' j = true then 1 else 0) ≤ (if p j = true then 1 else 0) := by
        by_cases h3 : p' j = true
        · rw [if_pos h3, if_pos (h j h3)]; exact Nat.le_refl _
        · rw [if_neg h3]; exact Nat.zero_le _
      omega
theorem keys_seq (xs : List PV) : SeqC Try.prog 55 [.rp [.rm xs]] (fun pre i => 2 * i < xs.length ∧ i ∉ pre) (fun i => [xs.getD (2 * i) .junk]) := by
  intro x lb hs hlb
  obtain ⟨pa, r1, e1, hpa, hr1⟩ := hlb
  simp only [RzL] at hr1
  subst hr1
  obtain ⟨a, rfl, hsp, ⟨u, hcell, hav, hu⟩, _⟩ := hpa
  obtain ⟨k, es, cl, rfl, hmap, hpk, hwf, hl⟩ := hu
  obtain rfl : lb = #[.pointer (some a)] := by
    cases lb; simp at e1; simp [e1]
  refine ⟨fun i => #[(es.toList.getD i default).key], fun pre i hi => ?_, ?_⟩
  · have hlen : xs.length = 2 * es.toList.length := by rw [← entL_len]; exact ((RzL_iff _ _).1 hl).1.symm
    have hil : i < es.toList.length := by omega
    have key : ∀ (l : List MapEntry) (i : Nat), i < l.length → (entL l)[2 * i]? = some (l.getD i default).key := by
      intro l
      induction l with
      | nil => intro i h; simp at h
      | cons e l ih =>
        intro i h
        cases i with
        | zero => rfl
        | succ i =>
          have := ih i (by simpa using h)
          rw [show 2 * (i + 1) = 2 * i + 1 + 1 by omega]
          simpa [entL] using this
    obtain ⟨v, h1, h2⟩ := ((RzL_iff _ _).1 hl).2 (2 * i) (xs.getD (2 * i) .junk) (by rw [List.getD_eq_getElem?_getD, List.getElem?_eq_getElem hi.1]; rfl)
    rw [key _ i hil] at h1
    injection h1 with h1
    subst h1
    exact ⟨_, [], rfl, h2, rfl⟩
  intro m l J Jx W hB hJ hJx hY h0
  have hf : Try.prog.funcs[55]? = some Try.f55 := rfl
  refine callsIn_of_wp hf rfl trivial ?_
  obtain ⟨ab, ao, asp⟩ := a
  simp only at hsp
  subst hsp
  have hc1 : W.cell? ⟨ab, ao, none⟩ = some (.map (some k)) := (hB.cell (p := ⟨ab, ao, none⟩) (cell_lt hcell)).trans hcell
  have hm1 : W.heap[k]? = some (.map es cl) := (hB.block k (Array.getElem?_eq_some_iff.1 hmap).1).trans hmap
  show Code.wpIn _ _ _ _ _ { tmps := #[.func (.yield l) #[] #[], .pointer (some ⟨ab, ao, none⟩), undef, undef, undef, undef, undef, undef, undef, undef, undef, undef, undef, undef], defers := [] } _
  gi_wp2
  rw [run_range_rm hm1]
  obtain ⟨W2, hW2⟩ : ∃ W2, W.alloc (.mapIter (some k) cl #[] cl) = W2 := ⟨_, rfl⟩
  rw [hW2]
  have hit : W2.heap[W.heap.size]? = some (.mapIter (some k) cl #[] cl) := by rw [← hW2]; exact World.alloc_heap_new _ _
  have hg2 : W.grownBy W2 none := by rw [← hW2]; exact World.grownBy_alloc W _ none
  have hc2 : W2.cell? ⟨ab, ao, none⟩ = some (.map (some k)) := by
    rw [← hc1]; simp only [World.cell?, hg2.block ab (cell_lt hc1) (by simp)]
  have hm2 : W2.heap[k]? = some (.map es cl) := (hg2.block k (Array.getElem?_eq_some_iff.1 hm1).1 (by simp)).trans hm1
  have hJ2 : J [] W2 := hJ [] W W2 none h0 hg2 (fun r e => by cases e)
  generalize W.heap.size = r at *
  show Oper.uponIn _ _ _ _ _ _ _ (.ok (.value _) _)
  rw [Oper.uponIn_value]
  gi_wp2
  have hlen : xs.length = 2 * es.toList.length := by rw [← entL_len]; exact ((RzL_iff _ _).1 hl).1.symm
  have hgetD : ∀ i, i < es.toList.length → es.toList[i]? = some (es.toList.getD i default) := fun i hi => by rw [List.getD_eq_getElem?_getD, List.getElem?_eq_getElem hi]; rfl
  refine wp_loop_k (fun q a' wr => ∃ (pre : List Nat) (seen : Array Nat) (v3 v6 v7 v8 v9 v10 v11 v12 v13 : Value), a' = { tmps := #[.func (.yield l) #[] #[], .pointer (some ⟨ab, ao, none⟩), undef, v3, .map (some k), .pointer (some ⟨r, 0, none⟩), v6, v7, v8, v9, v10, v11, v12, v13], defers := [] } ∧
    q = (List.range es.toList.length).countP (fun j => decide (j ∉ pre)) ∧ (∀ i ∈ pre, i < es.toList.length) ∧ pre.map (fun i => (es.toList.getD i default).born) = seen.toList ∧ J pre wr ∧ wr.heap[r]? = some (.mapIter (some k) cl seen cl) ∧ wr.heap[k]? = some (.map es cl)) _
    ⟨[], #[], _, _, _, _, _, _, _, _, _, rfl, rfl, by simp, rfl, hJ2, hit, hm2⟩ ?_
  rintro q _ wr ⟨pre, seen, v3, v6, v7, v8, v9, v10, v11, v12, v13, rfl, rfl, hpl, hps, hJr, hir, hmr⟩
  gi_wp2
  rcases run_next_at (P := Try.prog) wr 0 r k cl cl seen es cl hir hmr hwf.2 (Nat.le_refl _) with ⟨hno, hrun⟩ | ⟨e, hem, w1, hw1, hrun⟩
  · rw [hrun]
    show Oper.uponIn _ _ _ _ _ _ _ (.ok (.value _) _)
    rw [Oper.uponIn_value]
    gi_wp2
    go_end0
    refine ⟨⟨_, rfl⟩, .inl ⟨pre, fun i hi => ?_, hJr⟩⟩
    have hi' : i < es.toList.length := by simpa using hi
    have h1 := hgetD i hi'
    have h2 : (es.toList.getD i default).born ∈ seen.toList := by
      refine Classical.byContradiction fun h3 => ?_
      have h4 : es.toList.getD i default ∈ (leftOf es seen).toList := by
        unfold leftOf
        rw [Array.toList_filter]
        refine List.mem_filter.2 ⟨List.mem_of_getElem? h1, ?_⟩
        simpa using h3
      have h5 : (leftOf es seen).toList = [] := by
        have : leftOf es seen = #[] := Array.eq_empty_of_size_eq_zero hno
        rw [this]
      rw [h5] at h4
      cases h4
    rw [← hps] at h2
    obtain ⟨j, hj, e⟩ := List.mem_map.1 h2
    have h6 := hgetD j (hpl j hj)
    have h7 : (es.toList.map (·.born))[i]? = (es.toList.map (·.born))[j]? := by
      rw [List.getElem?_map, List.getElem?_map, h1, h6]
      exact congrArg some e.symm
    have h8 := (List.getElem?_inj (by simpa using hi') hwf.1).1 h7
    rw [h8]
    exact hj
  · rw [hrun]
    show Oper.uponIn _ _ _ _ _ _ _ (.ok (.value _) _)
    rw [Oper.uponIn_value]
    have hem' : e ∈ es.toList ∧ e.born ∉ seen.toList := by
      unfold leftOf at hem
      rw [Array.toList_filter] at hem
      obtain ⟨h1, h2⟩ := List.mem_filter.1 hem
      exact ⟨h1, by simpa using h2⟩
    obtain ⟨i, hi, hei⟩ := List.getElem_of_mem hem'.1
    have hge : es.toList.getD i default = e := by rw [List.getD_eq_getElem?_getD, List.getElem?_eq_getElem hi, hei]; rfl
    have hip : i ∉ pre := fun h => hem'.2 (by rw [← hps]; exact List.mem_map.2 ⟨i, h, by rw [hge]⟩)
    obtain ⟨w2, hw2⟩ : ∃ w2, ChangeMaps.setBlock w1 r (Obj.mapIter (some k) cl (seen.push e.born) cl) = w2 := ⟨_, rfl⟩
    have hlt : r < wr.heap.size := (Array.getElem?_eq_some_iff.1 hir).1
    have hkr : k ≠ r := by
      intro h
      subst h
      rw [hmr] at hir
      cases hir
    have hw1h : w1.heap = wr.heap := by rcases hw1 with rfl | rfl <;> rfl
    have hir2 : w2.heap[r]? = some (.mapIter (some k) cl (seen.push e.born) cl) := by
      rw [← hw2]
      simp [ChangeMaps.setBlock, hw1h, hlt]
    have hmr2 : w2.heap[k]? = some (.map es cl) := by
      rw [← hw2]
      simp [ChangeMaps.setBlock, hw1h, Array.getElem?_setIfInBounds_ne (Ne.symm hkr), hmr]
    have hg3 : wr.grownBy w2 (some r) := by
      rw [← hw2]
      refine ⟨?_, ?_, ?_, by simp [ChangeMaps.setBlock, hw1h], fun q hq hn => ?_⟩
      · rcases hw1 with rfl | rfl <;> rfl
      · rcases hw1 with rfl | rfl <;> rfl
      · rcases hw1 with rfl | rfl <;> rfl
      · simp [ChangeMaps.setBlock, hw1h, Array.getElem?_setIfInBounds_ne (show r ≠ q from fun h => hn (by rw [h]))]
    have hJ3 : J pre w2 := hJ pre wr w2 (some r) hJr hg3 (fun q hq => by injection hq with hq; subst hq; exact ⟨Nat.le_refl _, _, hir, rfl⟩)
    rw [hw2]
    gi_wp2
    rw [run_entry_at (P := Try.prog) w2 r k cl seen es cl e hir2 hmr2 hem'.1 hwf.1]
    show Oper.uponIn _ _ _ _ _ _ _ (.ok (.value _) _)
    rw [Oper.uponIn_value]
    obtain ⟨fn, tmps, assign, body, hy, hR⟩ := hY (m - 1) pre i w2 ⟨by omega, hip⟩ hJ3
    rw [hge] at hy
    gi_wp2
    refine ⟨fun h => by simp [Fence.wide] at h, hR.mono ?_⟩
    rintro e2 W3 (⟨rfl, hJ4, hk4⟩ | ⟨rfl, hJx4⟩)
    · gi_wp2
      have hir3 := hk4.2.2.1 r _ hir2 rfl
      have hkx : k < x.w.heap.size := (Array.getElem?_eq_some_iff.1 hmap).1
      have hmr3 : W3.heap[k]? = some (.map es cl) := (hk4.2.1 k hkx hpk).trans hmr2
      refine ⟨_, ?_, pre ++ [i], seen.push e.born, _, _, _, _, _, _, _, _, _, rfl, rfl, ?_, ?_, hJ4, hir3, hmr3⟩
      · refine countP_lt (fun j hj => ?_) (i := i) (by simpa using hip) (by simp) _ (List.mem_range.2 hi)
        simp at hj ⊢
        exact hj.1
      · intro j hj
        rcases List.mem_append.1 hj with h | h
        · exact hpl j h
        · rw [List.mem_singleton] at h; subst h; exact hi
      · rw [List.map_append, hps, Array.toList_push]
        simp only [List.map_cons, List.map_nil, hge]
    · gi_wp2
      refine bodyPost_ret (results_none rfl _ _ _) rfl ?_
      exact ⟨⟨_, rfl⟩, .inr ⟨_, hJx4⟩⟩
end Go.Proofs.Ythnjhhohfhnhgaa
