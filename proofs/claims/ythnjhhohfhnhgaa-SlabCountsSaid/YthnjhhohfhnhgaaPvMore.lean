/- The logic of pure values: make, store, append, copy; bytes and strings. -/
import Derived.Test.YthnjhhohfhnhgaaPvMake
import Derived.Test.YthnjhhohfhnhgaaLaws
import Derived.Laws.MakeOwn
import Derived.Laws.BytesArg
namespace Go.Proofs.Ythnjhhohfhnhgaa
open Go Go.RowKit

section
variable {P : Program} {N : Nat} {o : Oper} {T : Nat → PV} {H : Nat → Option Blk'} {n : Nat}
theorem Ty.parts {t : TypeId} {d : TypeDesc} {s b : Nat} (h : Ty P t d s b) {z : Value} (hz : TyZ P t z) : ∃ i, P.info? t = some i ∧ i.size = s ∧ i.bytes = b ∧ i.zero = some z := by
  obtain ⟨i, h1, h2⟩ := Option.map_eq_some_iff.1 h.info
  injection h2 with h2 h3
  obtain ⟨j, h4, h5⟩ := Option.bind_eq_some_iff.1 hz.zero
  rw [h1] at h4; injection h4 with h4; subst h4
  exact ⟨i, h1, h2, h3, h5⟩
/-- make([]T, l, m). -/
theorem OpOk.make {t : TypeId} {x y : Operand} (ho : o.op = .makeSlice t x y) (hd : ∀ d, o.dst = some d → d < N) {e : TypeId} {s1 b1 : Nat} [h1 : Ty P t (.slice e) s1 b1] {d : TypeDesc} {s b : Nat} {z : Value} [h2 : Ty P e d s b] [hz : TyZ P e z] {k k' : IntKind} {l m : Int} (hx : ev T x = .int k l) (hy : ev T y = .int k' m)
    (h0 : 0 ≤ l) (hlm : l ≤ m) (hb : (b : Int) * m ≤ 281474976710656) (h63 : m ≤ 9223372036854775807) (hzs : z.cells.size = s) (hs0 : 0 < s) : OpOk P N o T H n (.os n 0 0 l.toNat) (setH H n ⟨0, s, 0, zerosPV z s m.toNat⟩) (n + 1) [] [n] := by
  refine opOk_new hs0 hd [] 0 (fun c u => ⟨fun h => ⟨u, rfl, h⟩, fun ⟨_, _, h⟩ => h⟩) fun c a T2 hs ht hT _ => ?_
  rw [looks_of ho] at hT
  have hxv := ev_rz ht x
  have hyv := ev_rz ht y
  rw [ev_same hT (x := x) (by simp [Op.operands]), hx] at hxv
  rw [ev_same hT (x := y) (by simp [Op.operands]), hy] at hyv
  simp only [Rz] at hxv hyv
  obtain ⟨i, hi, hi1, hi2, hi3⟩ := h2.parts hz
  have hr := run_make (P := P) c.w t e i z h1.und hi hi3 k k' l m h0 hlm (by rw [hi2]; exact hb) h63
  rw [hi1] at hr
  have hzr := zeros_rz c hzs m.toNat hs0
  obtain ⟨h3, h4⟩ := (RzL_iff _ _).1 hzr
  refine ⟨.slice (some ⟨c.w.heap.size, 0, none⟩) l.toNat m.toNat, c.w.alloc (.cells (madeCells z.cells (m.toNat * s)) e), c.w.heap.size, madeCells z.cells (m.toNat * s), e, ?_, (Kp.refl _ _).alloc _, Nat.le_refl _, heap_alloc_new _ _, ⟨by simp [size_madeCells, zerosPV], fun j w hw => ?_⟩, fun c' hw hB hH hφ => ?_⟩
  · simp [execOp, ho, hxv, hyv, hr]
  · obtain ⟨u, h5, h6⟩ := h4 j w hw
    exact ⟨u, by rw [Array.getElem?_toList] at h5; exact h5, h6⟩
  · refine ⟨⟨_, _, _, rfl⟩, hB, fun blk hb => ?_⟩
    rw [hH] at hb; injection hb with hb; subst hb
    refine ⟨Nat.le_refl _, fun _ => ⟨hs0, _, m.toNat, rfl, by omega, .inr (by rw [hφ]), ?_⟩⟩
    have := heap_alloc_new c.w (.cells (madeCells z.cells (m.toNat * s)) e)
    rw [hφ, hw]
    simp only [msize, this, size_madeCells]
    omega

/-! ### Writing -/
theorem setCells_blk {k : Nat} {ty : TypeId} {fr : Nat × Nat} : ∀ (vs : List Value) (o : Nat) (w : World) (arr : Array Value), w.heap[k]? = some (.cells arr ty fr) → o + vs.length ≤ arr.size →
    ∃ arr', (w.setCells k o vs).heap[k]? = some (.cells arr' ty fr) ∧ arr'.size = arr.size ∧ (∀ j, j < o ∨ o + vs.length ≤ j → arr'[j]? = arr[j]?) ∧ ∀ (i : Nat) (v : Value), vs[i]? = some v → arr'[o + i]? = some v
  | [], o, w, arr, h, _ => ⟨arr, h, rfl, fun _ _ => rfl, by simp⟩
  | v :: vs, o, w, arr, h, hl => by
    simp only [List.length_cons] at hl
    have h1 : (w.setCell ⟨k, o, none⟩ v).heap[k]? = some (.cells (arr.setIfInBounds o v) ty fr) := by
      simp [World.setCell, Array.getElem?_modify, h]
    obtain ⟨arr', h2, h3, h4, h5⟩ := setCells_blk vs (o + 1) _ _ h1 (by simp; omega)
    refine ⟨arr', h2, by simpa using h3, fun j hj => ?_, fun i u hu => ?_⟩
    · rw [h4 j (by simp only [List.length_cons] at hj; omega)]
      rw [Array.getElem?_setIfInBounds_ne (by simp only [List.length_cons] at hj; omega)]
    · cases i with
      | zero =>
        simp at hu; subst hu
        rw [Nat.add_zero, h4 o (.inl (by omega))]
        simp [show o < arr.size by omega]
      | succ i =>
        have := h5 i u (by simpa using hu)
        rwa [show o + 1 + i = o + (i + 1) by omega] at this
theorem length_setAt : ∀ (ys cs : List PV) (j : Nat), (setAt cs j ys).length = cs.length
  | [], _, _ => rfl
  | y :: ys, cs, j => by simp [setAt, length_setAt ys]
theorem get_setAt : ∀ (ys cs : List PV) (j i : Nat), j + ys.length ≤ cs.length → (setAt cs j ys)[i]? = if j ≤ i ∧ i < j + ys.length then ys[i - j]? else cs[i]?
  | [], cs, j, i, _ => by
    simp only [setAt, List.length_nil, Nat.add_zero]
    rw [if_neg (by omega)]
  | y :: ys, cs, j, i, h => by
    simp only [setAt, List.length_cons] at h ⊢
    rw [get_setAt ys _ (j + 1) i (by simp; omega)]
    by_cases h1 : j + 1 ≤ i ∧ i < j + 1 + ys.length
    · rw [if_pos h1, if_pos (by omega)]
      rw [show i - j = (i - (j + 1)) + 1 by omega]
      simp
    · rw [if_neg h1]
      by_cases h2 : i = j
      · subst h2
        rw [if_pos (by omega), List.getElem?_set_self (by omega)]
        simp
      · rw [if_neg (by omega), List.getElem?_set, if_neg (Ne.symm h2)]
/-- A store into an own block. -/
theorem OpOk.store {t : TypeId} {x y : Operand} (ho : o.op = .store t x y) (hd : ∀ d, o.dst = some d → d < N) {d : TypeDesc} {s b : Nat} [ht : Ty P t d s b] {i g off : Nat} {blk : Blk'} (hx : ev T x = .op i g off) (hb : H i = some blk) (hg : g = blk.gen) {v : PV} (hy : ev T y = v) (hw : whole v = true) (hlf : ∀ z ∈ cellsPV v, leaf z = true) (hlen : (cellsPV v).length = s)
    (hlo : blk.lo ≤ off) (hin : off + s ≤ blk.cells.length) : OpOk P N o T H n .junk (setH H i { blk with cells := setAt blk.cells off (cellsPV v) }) n [] [i] := by
  refine ⟨Nat.le_refl n, fun j hj => setH_ne _ _ (by simpa using hj), fun j h1 h2 => by omega, hd, fun c a T2 hs hts hT hH hB K Q hK => ?_⟩
  rw [looks_of ho] at hT
  have hxv := ev_rz hts x
  have hyv := ev_rz hts y
  rw [ev_same hT (x := x) (by simp [Op.operands]), hx] at hxv
  rw [ev_same hT (x := y) (by simp [Op.operands]), hy] at hyv
  have hcb : c.H i = some blk := (hH i (.inr (by simp))).trans hb
  obtain ⟨hes0, ex⟩ := (hxv.2.2 blk hcb).2 hg
  have hl := cellsPV_rz hyv (whole_or hw)
  obtain ⟨h1, h2⟩ := (RzL_iff _ _).1 hl
  obtain ⟨cs, ty, h3, h4, h5⟩ := (hs.blk i blk hcb).row hes0
  have hvs : (a.eval y).cells.toList.length = s := by rw [h1, hlen]
  have hone : ∀ u ∈ (a.eval y).cells.toList, u.oneCell' = true := by
    intro u hu
    obtain ⟨q, hq, rfl⟩ := List.getElem_of_mem hu
    have hq' : q < (cellsPV v).length := by rw [← h1]; exact hq
    obtain ⟨u', h6, h7⟩ := h2 q _ (List.getElem?_eq_getElem hq')
    rw [List.getElem?_eq_getElem hq] at h6
    injection h6 with h6
    rw [h6]
    exact (leaf_one (hlf _ (List.getElem_mem hq')) h7).1
  have hcell : ∀ j, j < (a.eval y).cells.toList.length → (c.w.cell? ⟨(c.φ i).1, (c.φ i).2 + off + 0 + j, none⟩).isSome = true := by
    intro j hj
    simp only [World.cell?, h3]
    have : (c.φ i).2 + off + j < cs.size := by omega
    simp [this]
  have hfr : ∀ j, j < (a.eval y).cells.toList.length → c.w.frozen? ⟨(c.φ i).1, (c.φ i).2 + off + 0 + j, none⟩ = false := by
    intro j _
    simp [World.frozen?, h3]
  have hst := run_storeCells_cells (P := P) (c.φ i).1 ((c.φ i).2 + off) (a.eval y).cells.toList 0 c.w hcell hfr hone
  rw [Nat.add_zero] at hst
  have hrun : (execOp a.eval o).run P c.w = .ok .skip (c.w.setCells (c.φ i).1 ((c.φ i).2 + off) (a.eval y).cells.toList) := by
    have hsz : ¬ (a.eval y).cells.size ≠ s := by simpa using hvs
    unfold execOp
    rw [ho]
    simp only [ex]
    rw [Sem.run_bind]
    have : (Instr.storeAt t (.pointer (some ⟨(c.φ i).1, (c.φ i).2 + off, none⟩)) (a.eval y)).run P c.w = .ok () (c.w.setCells (c.φ i).1 ((c.φ i).2 + off) (a.eval y).cells.toList) := by
      unfold Instr.storeAt Instr.sureAddr storeVar
      show (Sem.bind (pure _) _).run P c.w = _
      simp only [Sem.bind, pure]
      show (Sem.bind (sizeOf t) _).run P c.w = _
      rw [Sem.run_bind', ht.size']
      simp only [Result.andThen_ok, if_neg hsz]
      exact hst
    rw [this]
    rfl
  obtain ⟨arr', h6, h7, h8, h9⟩ := setCells_blk (a.eval y).cells.toList ((c.φ i).2 + off) c.w cs h3 (by omega)
  have hkp : Kp (fun k => k = (c.φ i).1) c.w (c.w.setCells (c.φ i).1 ((c.φ i).2 + off) (a.eval y).cells.toList) := kp_setCells _ _ _
  obtain ⟨he, hs'⟩ := ext_turn hs (b := { blk with cells := setAt blk.cells off (cellsPV v) }) hes0 hcb hkp h3 h6 h7 (fun j hj => h8 j (.inl (by omega))) (o := (c.φ i).2) (Nat.le_refl _) (Nat.le_refl _) (Nat.le_refl _) (fun _ => ⟨rfl, rfl⟩)
    (by simp only [length_setAt]; omega) (fun j z hz => by
      simp only at hz
      rw [get_setAt _ _ _ _ (by omega)] at hz
      split at hz
      · rename_i hj
        obtain ⟨u, h10, h11⟩ := h2 _ z hz
        refine ⟨u, ?_, h11⟩
        have := h9 (j - off) u h10
        rwa [show (c.φ i).2 + off + (j - off) = (c.φ i).2 + j by omega] at this
      · rename_i hj
        obtain ⟨u, h10, h11⟩ := h5 j z hz
        exact ⟨u, by rw [h8 _ (by omega)]; exact h10, h11⟩)
  unfold Oper.wp
  rw [hrun]
  refine hK _ undef he hs' (fun j => ?_) (by rw [over_setH]; rfl) trivial
  show (c.B j ∨ j = i) ↔ _
  exact ⟨fun h => .inl (h.elim id fun e => e ▸ hs.born i blk hcb), fun h => h.elim .inl fun h => by omega⟩
end
end Go.Proofs.Ythnjhhohfhnhgaa
