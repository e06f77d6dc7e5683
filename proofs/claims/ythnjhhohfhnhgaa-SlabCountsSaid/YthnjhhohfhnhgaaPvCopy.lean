/- The logic of pure values: copy. -/
import Derived.Test.YthnjhhohfhnhgaaPvBy
namespace Go.Proofs.Ythnjhhohfhnhgaa
open Go Go.RowKit

section
variable {P : Program} {N : Nat} {o : Oper} {T : Nat → PV} {H : Nat → Option Blk'} {n : Nat}
/-- copy(d, x) into an own slice (elements of one cell). -/
theorem oCopy {sd x : Operand} {ts : Array TypeId} (ho : o.op = .call { callee := .builtin .copy, args := #[sd, x], argTypes := ts }) (hN : dstB o.dst N = true) {t tx : TypeId} (hts' : ts = #[t, tx]) {e : TypeId} {s1 b1 : Nat} [h1 : Ty P t (.slice e) s1 b1] {d : TypeDesc} {b : Nat} [h2 : Ty P e d 1 b]
    {i g off k lo : Nat} {cs : List PV} (hsd : ev T sd = .os i g off k) (hb : H i = some ⟨g, 1, lo, cs⟩) (hlo : lo ≤ off) (hin : off + k ≤ cs.length)
    {px : PV} (hxe : ev T x = px) {m : Nat} {ys : List PV} {R : List Nat} (hx : elemsOf H px = some (m, ys, R)) (hlen : ys.length = m) (hlf : ∀ y ∈ ys, leaf y = true) {zs : List PV} (hzs : setAt cs off (ys.take (min m k)) = zs) :
    OpOk P N o T H n (.int .i64 (min m k : Nat)) (setH H i ⟨g, 1, lo, zs⟩) n R [i] := by
  subst hzs
  refine ⟨Nat.le_refl n, fun j hj => setH_ne _ _ (by simpa using hj), fun j h1 h2 => by omega, dst_of hN, fun c a T2 hs hts hT hH hB K Q hK => ?_⟩
  subst hts'
  rw [looks_of ho] at hT
  have hdv := ev_rz hts sd
  have hxv := ev_rz hts x
  rw [ev_same hT (x := sd) (by simp [Op.operands, Call.operands]), hsd] at hdv
  rw [ev_same hT (x := x) (by simp [Op.operands, Call.operands]), hxe] at hxv
  have hcb : c.H i = some ⟨g, 1, lo, cs⟩ := (hH i (.inr (by simp))).trans hb
  obtain ⟨hes0, ad, cap, ea, e1, e2, e3⟩ := (hdv.2.2 _ hcb).2 rfl
  obtain ⟨A, cap', eb, f1, f2, f3⟩ := elemsOf_reads hs hx (fun q hq => hH q (.inl hq)) hxv
  obtain ⟨arr, ty, h3, h4, h5⟩ := (hs.blk i _ hcb).row hes0
  simp only at h4 h5
  have hsz1 : (P.info? e).map (·.size) = some 1 := by
    obtain ⟨inf, g1, g2⟩ := Option.map_eq_some_iff.1 h2.info
    rw [g1]
    injection g2 with g2 g3
    simp [g2]
  have key : ∀ (w' : World) (arr' : Array Value), (Builtin.copy_ #[t, tx] o.type #[a.eval sd, a.eval x]).run P c.w = .ok (goInt ((min m k : Nat) : Int)) w' → Kp (fun q => q = (c.φ i).1) c.w w' → w'.heap[(c.φ i).1]? = some (.cells arr' ty (0, 0)) → arr'.size = arr.size →
      (∀ j, j < (c.φ i).2 + lo → arr'[j]? = arr[j]?) → (∀ j z, (setAt cs off (ys.take (min m k)))[j]? = some z → ∃ u, arr'[(c.φ i).2 + j]? = some u ∧ Rz c z u) → o.wp P a c.w K Q := by
    intro w' arr' hr hkp hb' hsz hprot hcells
    obtain ⟨he, hs'⟩ := ext_turn hs (b := ⟨g, 1, lo, setAt cs off (ys.take (min m k))⟩) (Nat.succ_pos 0) hcb hkp h3 hb' hsz hprot (o := (c.φ i).2) (Nat.le_refl _) (Nat.le_refl _) (Nat.le_refl _) (fun _ => ⟨rfl, rfl⟩) (by simp only [length_setAt]; omega) hcells
    have hrun : (execOp a.eval o).run P c.w = .ok (.value (goInt ((min m k : Nat) : Int))) w' := by simp [execOp, ho, resolve, invoke, builtin, hr]
    unfold Oper.wp
    rw [hrun]
    refine hK _ _ he hs' (fun j => ?_) (by rw [over_setH]; rfl) rfl
    show (c.B j ∨ j = i) ↔ _
    exact ⟨fun h => .inl (h.elim id fun e => e ▸ hs.born i _ hcb), fun h => h.elim .inl fun h => by omega⟩
  rcases Nat.eq_zero_or_pos (min m k) with h0 | h0
  · refine key c.w arr ?_ (Kp.refl _ _) h3 rfl (fun _ _ => rfl) (fun j z hz => ?_)
    · rw [h0, ea, eb]
      exact run_copy_none (P := P) c.w t tx o.type e (some ad) A k cap m cap' h1.und hsz1 h0
    · rw [h0] at hz
      exact h5 j z hz
  · have hne : ys ≠ [] := fun h => by rw [h] at hlen; simp at hlen; omega
    obtain ⟨ax, rfl, g3, g4⟩ := f3 hne
    obtain ⟨us, g5, g6⟩ := g4.vals
    obtain ⟨g7, g8⟩ := (RzL_iff _ _).1 g5
    have had : ad = ⟨(c.φ i).1, (c.φ i).2 + off, none⟩ := by
      rcases e2 with e2 | e2
      · omega
      · exact e2
    subst had
    have hone : ∀ u ∈ us.take (min m k), u.oneCell' = true := fun u hu => leafs_one hlf g5 u (List.mem_of_mem_take hu)
    have hul : (us.take (min m k)).length = min m k := by rw [List.length_take]; omega
    have hr := run_copy_row (P := P) c.w t tx o.type e (c.φ i).1 ((c.φ i).2 + off) k cap ax m cap' arr ty (us.take (min m k)) h1.und hsz1 h3 hul
      (fun j v hv => by
        rw [List.getElem?_take] at hv
        split at hv
        · rw [addr_add g3]; exact g6 j v hv
        · cases hv) (by rw [hul]; omega) hone
    have hheap := setRow_heap c.w (c.φ i).1 arr (arr.toList.take ((c.φ i).2 + off) ++ us.take (min m k) ++ arr.toList.drop ((c.φ i).2 + off + min m k)).toArray ty _ h3
    refine key _ _ (by rw [ea, eb]; rw [hul] at hr; exact hr) (kp_setRow _ _ _) hheap ?_ (fun j hj => ?_) (fun j z hz => ?_)
    · simp only [List.size_toArray, List.length_append, List.length_take, List.length_drop, Array.length_toList]; omega
    · simp only [List.getElem?_toArray, List.append_assoc]
      rw [List.getElem?_append_left (by simp; omega), List.getElem?_take, if_pos (by omega)]
      simp
    · rw [get_setAt _ _ _ _ (by simp; omega)] at hz
      simp only [List.getElem?_toArray, List.append_assoc]
      split at hz
      · rename_i hj
        have hj2 : j - off < min m k := by simp at hj; omega
        rw [List.getElem?_take, if_pos hj2] at hz
        obtain ⟨u, h10, h11⟩ := g8 _ z hz
        refine ⟨u, ?_, h11⟩
        have hl1 : (arr.toList.take ((c.φ i).2 + off)).length = (c.φ i).2 + off := by simp; omega
        rw [List.getElem?_append_right (by omega), hl1, List.getElem?_append_left (by omega), List.getElem?_take, show (c.φ i).2 + j - ((c.φ i).2 + off) = j - off by omega, if_pos hj2]
        exact h10
      · rename_i hj
        obtain ⟨u, h10, h11⟩ := h5 j z hz
        refine ⟨u, ?_, h11⟩
        have hjl : (c.φ i).2 + j < arr.size := (Array.getElem?_eq_some_iff.1 h10).1
        have hl1 : (arr.toList.take ((c.φ i).2 + off)).length = (c.φ i).2 + off := by simp; omega
        have hyl : (ys.take (min m k)).length = min m k := by simp; omega
        rw [hyl] at hj
        rcases Nat.lt_or_ge j off with h | h
        · rw [List.getElem?_append_left (by omega), List.getElem?_take, if_pos (by omega)]
          simpa using h10
        · rw [List.getElem?_append_right (by omega), hl1, List.getElem?_append_right (by omega), List.getElem?_drop, hul]
          rw [show (c.φ i).2 + off + min m k + ((c.φ i).2 + j - ((c.φ i).2 + off) - min m k) = (c.φ i).2 + j by omega]
          simpa using h10
end
end Go.Proofs.Ythnjhhohfhnhgaa
