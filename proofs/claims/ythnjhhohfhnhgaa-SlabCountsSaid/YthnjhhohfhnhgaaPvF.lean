/- The logic of pure values: calls whose result lies in memory that was not there. -/
import Derived.Test.YthnjhhohfhnhgaaPvL
import Derived.Test.YthnjhhohfhnhgaaPvBy
namespace Go.Proofs.Ythnjhhohfhnhgaa
open Go Go.RowKit

/-- The call of g returns what r tells, in memory that was not there; nothing that stood is turned. -/
def CtrF (P : Program) (g : FuncId) (xs : List PV) (r : PV) : Prop :=
  ∀ (w : World) (V : Nat → Nat → Prop) (vs : Array Value), (∀ k j, V k j → k < w.heap.size) → RzL (cl w V) xs vs.toList →
    Calls P g vs w fun e w' => ∃ u, e = .returned u ∧ Kp0 w w' ∧ Rz (cl w' (fun k _ => k < w.heap.size)) r u
theorem CtrF.ctr {P : Program} {g : FuncId} {xs : List PV} {r : PV} (h : CtrF P g xs r) : Ctr P g xs r := by
  intro w V vs hV hx
  refine (h w V vs hV hx).mono ?_
  rintro e w' ⟨u, rfl, hk, hu⟩
  refine ⟨u, rfl, hk, Rz_open (c := cl w' V) rfl (fun k j hkj => ?_) _ _ hu⟩
  rcases hkj with h1 | ⟨_, _, h1, _⟩
  · exact hV k j h1
  · cases h1
/-- A result without memory lies in no memory. -/
theorem ctrF_int {P : Program} {g : FuncId} {xs : List PV} {k : IntKind} {n : Int} (h : Ctr P g xs (.int k n)) : CtrF P g xs (.int k n) := h
theorem ctrF_bool {P : Program} {g : FuncId} {xs : List PV} {b : Bool} (h : Ctr P g xs (.bool b)) : CtrF P g xs (.bool b) := h
/-- Bytes of one's own, handed back. -/
theorem ctrF_of_ctrO {P : Program} {g : FuncId} {xs : List PV} {i gen n lo : Nat} {b : List UInt8} {B1 : List (Option Blk')} (h : CtrO P g [] xs (.os i gen 0 n) B1) (hB : (B1[i]?).join = some ⟨gen, 1, lo, pb b⟩) (hl : b.length = n) : CtrF P g xs (.ro false n (pb b)) := by
  intro w V vs hV hx
  have hs : HSim (cl w V) := cl_hsim hV
  refine (h (cl w V) vs hs (fun i => by simp) (fun i => by simp) hx).mono ?_
  rintro e w' ⟨c', u, rfl, rfl, hE, hs', hH, _, hu⟩
  refine ⟨u, rfl, ⟨hE.os, hE.tape, hE.output, hE.size, fun k hk _ => hE.other k hk (fun _ _ h => nomatch h)⟩, ?_⟩
  have hb := (hH i).trans hB
  obtain ⟨_, _, h3⟩ := hu
  obtain ⟨h4, a, cap, rfl, h5, h6, _⟩ := (h3 _ hb).2 rfl
  have hnew : w.heap.size ≤ (c'.φ i).1 := by
    rcases hE.mine i _ hb with ⟨_, h7, _⟩ | h7
    · cases h7
    · exact h7
  refine ⟨some a, cap, rfl, h5, by simp, (fun h => by cases h), ?_⟩
  rcases Nat.eq_zero_or_pos n with h0 | h0
  · refine .inl ?_
    have : b = [] := List.eq_nil_of_length_eq_zero (by omega)
    rw [this]; rfl
  · have ha : a = ⟨(c'.φ i).1, (c'.φ i).2 + 0, none⟩ := h6.resolve_left (by omega)
    refine .inr ⟨_, _, by rw [ha], ?_⟩
    rw [RzAt_iff]
    intro j x hx'
    obtain ⟨u, h8, h9⟩ := own_at' hs' hb (by exact h4) (by exact hx')
    refine ⟨u, by rw [Nat.add_zero]; exact h8, ?_, ?_⟩
    · rintro (h | ⟨_, _, h, _⟩)
      · have : (c'.φ i).1 < w.heap.size := h
        omega
      · cases h
    · rw [pb, List.getElem?_map] at hx'
      obtain ⟨y, _, rfl⟩ := Option.map_eq_some_iff.1 hx'
      exact h9
section
variable {P : Program} {N : Nat} {o : Oper} {T : Nat → PV} {H : Nat → Option Blk'} {n : Nat}
/-- **A call by contract whose result lies in new memory**: own slices in vis are lent. -/
theorem oCallF (vis : List Nat) {g : FuncId} [Ent P g] {f : Operand} {av : Array Operand} {ts : Array TypeId} {ys zs : List PV} {r : PV} (ho : o.op = .call { callee := .value f, args := av, argTypes := ts }) (hN : dstB o.dst N = true) (hf : ev T f = .fn (.func g) [] []) (hy : av.toList.map (ev T) = ys) (hs : SnapL H vis ys zs) (hc : CtrF P g zs r) : OpOk P N o T H n r H n vis [] := by
  refine ⟨Nat.le_refl _, fun i hi => rfl, fun i h1 h2 => by omega, dst_of hN, fun c a T2 hsc ht hT hH _ K Q hK => ?_⟩
  have hl : looks o = tmpsOf (f :: av.toList) := by
    unfold looks
    rw [ho]
    simp [Op.operands, Call.operands]
  rw [hl] at hT
  have hf2 : ev T2 f = .fn (.func g) [] [] := (ev_same hT (by simp)).trans hf
  have hm2 : av.toList.map (ev T2) = av.toList.map (ev T) := List.map_congr_left fun x hx => ev_same hT (by simp [hx])
  have hv := ev_rz ht f
  rw [hf2] at hv
  obtain ⟨fv, cv, hfe, hfs, hcs⟩ := hv
  have hall : RzL c ys (fv ++ av.map a.eval ++ cv).toList := by
    have h1 := RzL_map ht av.toList
    rw [hm2, hy] at h1
    have := RzL_append (RzL_append hfs h1) hcs
    simpa using this
  have hH' : ∀ i ∈ vis, c.H i = H i := fun i hi => hH i (.inl hi)
  obtain ⟨he1, hs1, hav, hvis⟩ := ext_freeze hsc vis hH'
  generalize hc1 : ({ c with H := over c.H (freeze' H vis) vis } : Cx) = c1 at he1 hs1 hav hvis
  have hw1 : c1.w = c.w := by rw [← hc1]
  have hxs : RzL (cl c.w c1.av) zs (fv ++ av.map a.eval ++ cv).toList := hs.rzl hsc hH' (fun k j h1 h2 => (hav k j).elim h1 fun h3 => h3 h2) (fun i hi b hb j hj => by have := hvis i hi b hb j hj; exact this) hall
  have hlt : ∀ k j, c1.av k j → k < c.w.heap.size := by
    rintro k j (h | ⟨i, b, hb, h1, _⟩)
    · have := hs1.Vlt k j h; rwa [hw1] at this
    · have := hs1.lt hb; rw [h1, hw1] at this; exact this
  unfold Oper.wp
  rw [call_run ho hfe, Oper.upon_enter]
  refine (hc c.w c1.av _ hlt hxs).mono ?_
  rintro e w' ⟨u, rfl, hk, hu⟩
  obtain ⟨he2, hs2⟩ := ext_kp hk hsc
  refine hK { c with w := w' } u he2 hs2 (fun i => ⟨.inl, fun h => h.elim id fun h => by omega⟩) ?_ (Rz_open (c := { c with w := w' }) rfl (fun k j h => ?_) _ _ hu)
  · funext i
    simp [over]
  · rcases h with h | ⟨i, b, hb, h1, _⟩
    · exact hsc.Vlt k j h
    · have h2 := hsc.lt (show c.H i = some b from hb)
      have h3 : (c.φ i).1 = k := h1
      omega
/-- A call that hands back a slice of the caller's own. -/
theorem oFresh {HL : List (Nat × Blk')} {g : FuncId} [Ent P g] {f : Operand} {av : Array Operand} {ts : Array TypeId} {ys xs : List PV} {m es : Nat} {cs : List PV} (ho : o.op = .call { callee := .value f, args := av, argTypes := ts }) (hN : dstB o.dst N = true) (hf : ev T f = .fn (.func g) [] []) (hy : av.toList.map (ev T) = ys)
    (hc : CtrO P g [] xs (.os 0 0 0 m) [some ⟨0, es, 0, cs⟩]) [hx : CvL ys xs] [hcl : ClL cs] : OpOk P N o T (hget HL) n (.os n 0 0 m) (hget ([(n, ⟨0, es, 0, cs⟩)] ++ HL)) (n + 1) [] ([] ++ [] ++ (List.range 1).map (n + ·)) := by
  have h0 : hget ([(n, (⟨0, es, 0, cs⟩ : Blk'))] ++ HL) n = some ⟨0, es, 0, cs⟩ := by
    show (match Nat.beq n n with | true => some _ | false => _) = _
    rw [Nat.beq_refl]
  exact oCallO [] [(n, ⟨0, es, 0, cs⟩)] ho hN hf hy hc (by simp) trivial .cv rfl ⟨⟨_, h0, ⟨rfl, rfl, rfl, .cv⟩⟩, trivial⟩ rfl (by simp) (.os ⟨by simp, rfl⟩)
/-- Two truth values are compared. -/
theorem oEqB {op : BinOp} {t t' : TypeId} {x y : Operand} {s b : Nat} {a c neg : Bool} (ho : o.op = .binOp op t x y t') (hop : op = if neg then .neq else .eql) (hN : dstB o.dst N = true) [ht : Ty P t .bool s b] (hx : ev T x = .bool a) (hy : ev T y = .bool c) {v : Bool} (hv : (if neg then !(a == c) else a == c) = v) : OpOk P N o T H n (.bool v) H n [] [] := by
  subst hv
  refine OpOk.quiet [] (dst_of hN) fun cx ac T2 hs hts hT _ => ?_
  rw [looks_of ho] at hT
  have h1 := ev_rz hts x
  have h2 := ev_rz hts y
  rw [ev_same hT (x := x) (by simp [Op.operands]), hx] at h1
  rw [ev_same hT (x := y) (by simp [Op.operands]), hy] at h2
  simp only [Rz] at h1 h2
  have key : (Op.equal t (.bool a) (.bool c)).run P cx.w = .ok (a == c) cx.w := by
    unfold Op.equal Op.maxDepth
    rw [show (10000 : Nat) = 9999 + 1 from rfl]
    unfold Op.equalIn
    rw [Sem.run_bind, run_und ht.und]
    rfl
  refine ⟨.bool (if neg then !(a == c) else a == c), ?_, rfl⟩
  have hg : (eqGuard op t x y (.bool a) (.bool c)).run P cx.w = .ok () cx.w := by
    unfold eqGuard
    subst hop
    cases neg <;> rfl
  have hb : (binOp op t (.bool a) (.bool c)).run P cx.w = .ok (.bool (if neg then !(a == c) else a == c)) cx.w := by
    subst hop
    cases neg <;> simp [binOp, key]
  simp [execOp, ho, h1, h2, hg, hb]
theorem oMM {x y : Operand} {ts : Array TypeId} {k j : IntKind} {a b r : Int} (mx : Bool) (ho : o.op = .call { callee := .builtin (if mx then .max else .min), args := #[x, y], argTypes := ts }) (hN : dstB o.dst N = true) (hx : ev T x = .int k a) (hy : ev T y = .int j b) (hr : (if mx then max a b else min a b) = r) : OpOk P N o T H n (.int k r) H n [] [] := hr ▸ oMinMax mx ho hN hx hy
end
end Go.Proofs.Ythnjhhohfhnhgaa
