/- Laws for the builtins copy and append in the words of XMem. -/
import Derived.Test.YthnjhhohfhnhgaaMem
import Derived.Laws.CopyOwn
import Derived.OwnWalk
import Derived.ArgAppend
import Derived.Deep.Upon
import Derived.Laws.BytesArg
namespace Go.Proofs.Ythnjhhohfhnhgaa
open Go Go.RowKit

theorem one_bv (xs : List UInt8) : ∀ v ∈ bv xs, v.oneCell' = true := by
  intro v hv
  obtain ⟨b, _, rfl⟩ := List.mem_map.1 hv
  rfl
theorem one_wv (xs : List UInt32) : ∀ v ∈ wv xs, v.oneCell' = true := by
  intro v hv
  obtain ⟨b, _, rfl⟩ := List.mem_map.1 hv
  rfl
theorem kp_setRow (w : World) (g : Nat) (cs : Array Value) : Kp (fun k => k = g) w (w.setRow g cs) :=
  ⟨rfl, rfl, rfl, by simp [World.setRow], fun k _ hn => setRow_other w g k cs (fun e => hn (by omega))⟩

/-- copy(d, s) into a block known whole. -/
theorem wpl_copy {P : Program} {w : World} {ops : Array Oper} {rest : List Oper} {o : Oper} {a : Act} {Q : Exit → Act → World → Prop} (hgd : o.guard = none) (d s : Operand) (dT sT : TypeId)
    (ho : o.op = .call { callee := .builtin .copy, args := #[d, s], argTypes := #[dT, sT] }) (elem : TypeId) (hu : P.underlying dT = some (.slice elem)) (hsz : (P.info? elem).map (·.size) = some 1)
    (g off dLen dCap : Nat) (sp : Option Addr) (sLen sCap : Nat) (hd : a.eval d = .slice (some ⟨g, off, none⟩) dLen dCap) (hs : a.eval s = .slice sp sLen sCap)
    (cur : List Value) (t : TypeId) (hg : Blk w g t cur) (cs : List Value) (hn : cs.length = Nat.min sLen dLen) (hsrc : Rd w sp cs) (hfit : off + cs.length ≤ cur.length) (h1 : ∀ v ∈ cs, v.oneCell' = true)
    (h : ∀ w', Blk w' g t (cur.take off ++ (cs ++ cur.drop (off + cs.length))) → Kp (fun k => k = g) w w' → wpList P ops Q rest (a.put o.dst (goInt cs.length)) w') :
    wpList P ops Q (o :: rest) a w := by
  rcases Nat.eq_zero_or_pos cs.length with h0 | h0
  · obtain rfl : cs = [] := List.eq_nil_of_length_eq_zero h0
    refine wpList_copy_nothing hgd d s dT sT ho elem hu hsz _ sp dLen dCap sLen sCap hd hs (by simpa using hn.symm) ?_
    exact h w (by simpa using hg) (Kp.refl _ _)
  · obtain ⟨b, o', rfl, _, hc⟩ := hsrc.addr h0
    refine wpList_copy_own hgd d s dT sT ho elem hu hsz g off dLen dCap ⟨b, o', none⟩ sLen sCap hd hs cur.toArray t hg cs hn ?_ (by simpa using hfit) h1 ?_
    · intro j v hj
      have := hc j v hj
      unfold Addr.add
      split
      · rename_i e; subst e; simpa using this
      · exact this
    · exact h _ (by simpa [Blk] using setRow_heap w g _ _ t _ hg) (kp_setRow w g _)

/-- A composite literal whose cells are known. -/
theorem wpl_build {P : Program} {w : World} {ops : Array Oper} {rest : List Oper} {o : Oper} {a : Act} {Q : Exit → Act → World → Prop} (hg : o.guard = none) (t : TypeId) (parts : Array (Nat × Operand)) (ho : o.op = .build t parts)
    (cs : Array Value) (hf : P.built t (parts.map fun (i, x) => (i, a.eval x)).toList = some cs) (h : wpList P ops Q rest (a.put o.dst (.agg cs)) w) : wpList P ops Q (o :: rest) a w :=
  wpList_build hg t parts ho (by rw [hf]; rfl) (by rw [hf]; exact h)
/-- A whole row stored into a block known whole. -/
theorem wpl_store_row {P : Program} {w : World} {ops : Array Oper} {rest : List Oper} {o : Oper} {a : Act} {Q : Exit → Act → World → Prop} (hgd : o.guard = none) (ty : TypeId) (x y : Operand) (ho : o.op = .store ty x y)
    (g : Nat) (cells : Array Value) (hx : a.eval x = .pointer (some ⟨g, 0, none⟩)) (hy : a.eval y = .agg cells)
    (t : TypeId) (old : Array Value) (hg : w.heap[g]? = some (.cells old t (0, 0))) (n : Nat) (hi : (P.info? ty).map (·.size) = some n)
    (hold : old.size = n) (hn : cells.size = n) (h1 : cells.all (·.oneCell') = true)
    (h : ∀ w', w'.heap[g]? = some (.cells cells t (0, 0)) → Kp (fun k => k = g) w w' → wpList P ops Q rest (a.put o.dst undef) w') : wpList P ops Q (o :: rest) a w :=
  wpList_store_row hgd ty x y ho g cells hx hy t old hg (by rw [hn]; exact hi) (by rw [hn]; exact hold) h1 (h _ (setRow_heap w g _ _ t _ hg) (kp_setRow w g _))

/-- x[i] of an array value, its elements of one cell each and no aggregates. -/
theorem run_index_one {P : Program} (T e n : Nat) (cs : Array Value) (k : IntKind) (i : Int) (v : Value) (d : TypeDesc) (hT : P.underlying T = some (.array n e)) (he : P.underlying e = some d)
    (hd : (match d with | .struct _ | .array _ _ => true | _ => false) = false) (hsz : (P.info? e).map (·.size) = some 1) (h0 : 0 ≤ i) (h1 : i < (n : Int)) (hv : cs[i.toNat]? = some v) (w : World) :
    (Instr.index T (.agg cs) (.int k i)).run P w = .ok v w := by
  cases hq : P.info? e with
  | none => simp [hq] at hsz
  | some inf =>
    have hs : inf.size = 1 := by simpa [hq] using hsz
    have hagg : (isAgg e).run P w = .ok false w := by
      unfold isAgg
      rw [Sem.run_bind, run_underlying he w]
      cases d <;> simp_all
    simp [Instr.index, asIntOf, run_underlying hT, sizeOf, typeInfo, hq, hs, h0, h1, part, Sem.run_bind, hagg, hv]

/-! ### A slice whose memory is the call's own (elements of one cell): r is its block, if it has any room -/
def Own (w : World) (base : Nat) (e : TypeId) (r : Option Nat) (A : Option Addr) (n c : Nat) (xs : List Value) : Prop :=
  xs.length = n ∧ n ≤ c ∧ c ≤ maxLen ∧ (c = 0 ∨ ∃ g o cs, r = some g ∧ A = some ⟨g, o, none⟩ ∧ base ≤ g ∧ Blk w g e cs ∧ o + c = cs.length ∧ (cs.drop o).take n = xs)
section
variable {w w' : World} {base : Nat} {e : TypeId} {r : Option Nat} {A : Option Addr} {n c : Nat} {xs : List Value}
theorem Own.nil (w : World) (base : Nat) (e : TypeId) (r : Option Nat) : Own w base e r none 0 0 [] := ⟨rfl, Nat.le_refl _, by simp [maxLen], .inl rfl⟩
theorem Own.empty (w : World) (base : Nat) (e : TypeId) (r : Option Nat) (A : Option Addr) : Own w base e r A 0 0 [] := ⟨rfl, Nat.le_refl _, by simp [maxLen], .inl rfl⟩
theorem Own.len (h : Own w base e r A n c xs) : xs.length = n := h.1
theorem Own.keep (h : Own w base e r A n c xs) (hk : ∀ g, r = some g → g < w.heap.size → w'.heap[g]? = w.heap[g]?) : Own w' base e r A n c xs := by
  obtain ⟨h1, h2, h3, h4⟩ := h
  refine ⟨h1, h2, h3, ?_⟩
  rcases h4 with h4 | ⟨g, o, cs, rfl, rfl, hb, hB, hc, ht⟩
  · exact .inl h4
  · exact .inr ⟨g, o, cs, rfl, rfl, hb, (hk g rfl hB.lt).trans hB, hc, ht⟩
theorem Own.kept {S : Nat → Prop} (h : Own w base e r A n c xs) (hk : Kp S w w') (hS : ∀ g, r = some g → ¬ S g) : Own w' base e r A n c xs := h.keep fun g hg hl => hk.block g hl (hS g hg)
theorem Own.kept0 (h : Own w base e r A n c xs) (hk : Kp0 w w') : Own w' base e r A n c xs := h.kept hk fun _ _ h => h
theorem Own.alloc (h : Own w base e r A n c xs) (o : Obj) : Own (w.alloc o) base e r A n c xs := h.kept0 ((Kp.refl _ w).alloc o)
theorem Own.drew (h : Own w base e r A n c xs) : Own w.drew base e r A n c xs := h
theorem Own.mono {base' : Nat} (h : Own w base e r A n c xs) (hb : base' ≤ base) : Own w base' e r A n c xs := by
  obtain ⟨h1, h2, h3, h4⟩ := h
  refine ⟨h1, h2, h3, ?_⟩
  rcases h4 with h4 | ⟨g, o, cs, hr, hA, hbb, hB, hc, ht⟩
  · exact .inl h4
  · exact .inr ⟨g, o, cs, hr, hA, Nat.le_trans hb hbb, hB, hc, ht⟩
theorem Own.rd (h : Own w base e r A n c xs) : Rd w A xs := by
  obtain ⟨h1, h2, h3, h4⟩ := h
  rcases h4 with h4 | ⟨g, o, cs, rfl, rfl, hb, hB, hc, ht⟩
  · exact .inl (List.eq_nil_of_length_eq_zero (by omega))
  · refine .inr ⟨g, o, rfl, fun j hj => ?_⟩
    rw [hB.cell, ← ht, List.getElem?_take, if_pos (by omega), List.getElem?_drop]
theorem Own.lt (h : Own w base e r A n c xs) (hn : 0 < n) : ∃ g o, r = some g ∧ A = some ⟨g, o, none⟩ ∧ base ≤ g ∧ g < w.heap.size := by
  obtain ⟨h1, h2, h3, h4⟩ := h
  rcases h4 with h4 | ⟨g, o, cs, rfl, rfl, hb, hB, hc, ht⟩
  · omega
  · exact ⟨g, o, rfl, rfl, hb, hB.lt⟩
theorem Own.cut (h : Own w base e r A n c xs) (k : Nat) (hk : k ≤ n) : Own w base e r (if c = k then A else A.map (·.add k)) (n - k) (c - k) (xs.drop k) := by
  obtain ⟨h1, h2, h3, h4⟩ := h
  refine ⟨by simp [h1], by omega, by omega, ?_⟩
  rcases h4 with h4 | ⟨g, o, cs, rfl, rfl, hb, hB, hc, ht⟩
  · exact .inl (by omega)
  · by_cases e : c = k
    · exact .inl (by omega)
    · refine .inr ⟨g, o + k, cs, rfl, ?_, hb, hB, by omega, ?_⟩
      · rw [if_neg e]
        simp only [Option.map_some, Addr.add]
        split
        · rename_i hk0; subst hk0; rfl
        · rfl
      · rw [← ht, List.drop_take, List.drop_drop]
theorem Own.of_row {v : Value} (h : w.ownsRow base e 1 v n xs) : ∃ r A c, v = .slice A n c ∧ Own w base e r A n c xs ∧ ∀ g, r = some g → base ≤ g ∧ g < w.heap.size := by
  obtain ⟨h1, h2⟩ := h
  rcases h2 with ⟨rfl, rfl⟩ | ⟨g, cap, cur, rfl, hb, hh, hn, hm, hs, ht⟩
  · obtain rfl : xs = [] := List.eq_nil_of_length_eq_zero (by simpa using h1)
    exact ⟨none, none, 0, rfl, Own.nil _ _ _ _, by simp⟩
  · have hB : Blk w g e cur.toList := by unfold Blk; simpa using hh
    refine ⟨some g, _, cap, rfl, ⟨by simpa using h1, hn, hm, .inr ⟨g, 0, cur.toList, rfl, rfl, hb, hB, by simp [hs], by simpa using ht⟩⟩, ?_⟩
    rintro _ ⟨⟩
    exact ⟨hb, hB.lt⟩
end

theorem blk_setCells {g : Nat} {t : TypeId} : ∀ (vs : List Value) (o : Nat) (w : World) (cs : List Value), Blk w g t cs → o + vs.length ≤ cs.length → Blk (w.setCells g o vs) g t (cs.take o ++ (vs ++ cs.drop (o + vs.length)))
  | [], o, w, cs, h, _ => by simpa [World.setCells] using h
  | v :: vs, o, w, cs, h, hl => by
    simp only [List.length_cons] at hl
    rw [World.setCells]
    have := blk_setCells vs (o + 1) _ _ (h.set o v) (by simp; omega)
    rw [List.take_set, List.drop_set] at this
    rw [if_pos (by omega)] at this
    have e1 : (cs.take (o + 1)).set o v = cs.take o ++ [v] := by
      rw [List.take_add_one, List.getElem?_eq_getElem (by omega)]
      rw [List.set_append_right _ _ (by simp; omega)]
      simp [show min o cs.length = o by omega]
    rw [e1] at this
    simpa [Nat.add_assoc, Nat.add_comm 1] using this
theorem kp_setCells {g : Nat} : ∀ (vs : List Value) (o : Nat) (w : World), Kp (fun k => k = g) w (w.setCells g o vs)
  | [], _, w => Kp.refl _ w
  | v :: vs, o, w => ((Kp.refl (fun k => k = g) w).setCell (p := ⟨g, o, none⟩) (fun _ => rfl) v).trans (kp_setCells vs (o + 1) _) fun _ _ h => h

/-- append(s, x...): s the call's own, x whatever is read. -/
theorem wpl_append {P : Program} (w : World) {ops : Array Oper} {rest : List Oper} {o : Oper} {a : Act} {Q : Exit → Act → World → Prop} (hgd : o.guard = none) (s x : Operand) (t : TypeId)
    (hop : o.op = Op.call { callee := Callee.builtin Builtin.append, args := #[s, x], argTypes := #[t, t] })
    (e : TypeId) (z : Value) (bytes : Nat) (h1 : P.underlying t = some (.slice e)) (hinfo : (P.info? e).map (fun i => (i.zero, i.size, i.bytes)) = some (some z, 1, bytes)) (h6 : z.cells.size = 1)
    (base : Nat) (r : Option Nat) (A : Option Addr) (n c : Nat) (xs : List Value) (hs : a.eval s = .slice A n c) (HO : Own w base e r A n c xs)
    (A2 : Option Addr) (m c2 : Nat) (ys : List Value) (hx : a.eval x = .slice A2 m c2) (hm : ys.length = m) (hr : Rd w A2 ys) (h1c : ∀ u ∈ ys, u.oneCell' = true) (hbase : base ≤ w.heap.size)
    (b1 : n + m ≤ maxLen) (b2 : (n + m) * bytes ≤ 140737488355328)
    (h : ∀ A' c' r' w', Own w' base e r' A' (n + m) c' (xs ++ ys) → Kp (fun k => some k = r) w w' → (r' = r ∨ ∃ k, r' = some k ∧ w.heap.size ≤ k ∧ k < w'.heap.size) → wpList P ops Q rest (a.put o.dst (.slice A' (n + m) c')) w') :
    wpList P ops Q (o :: rest) a w := by
  obtain ⟨i, hi, hz⟩ := Option.map_eq_some_iff.1 hinfo
  simp only [Prod.mk.injEq] at hz
  obtain ⟨hz0, hz1, hz2⟩ := hz
  obtain ⟨hl, hnc, hcm, hO⟩ := id HO
  rcases Nat.eq_zero_or_pos m with h0 | h0
  · subst h0
    obtain rfl : ys = [] := List.eq_nil_of_length_eq_zero hm
    refine wpList_plain hgd fun K hK' => ?_
    have hrun := run_append_nothing (P := P) w t t o.type e i h1 hi A n c hnc (.slice A2 0 c2) ⟨.inl ⟨e, h1⟩, fun _ => rfl, by cases A2 <;> simp [Builtin.firstCells, loadCells, loadCellsFrom], by cases A2 <;> simp [Builtin.firstCells, loadCells, loadCellsFrom], by simp, by simp⟩
    unfold Oper.wp
    simp [execOp, hop, resolve, invoke, builtin, hs, hx, hrun, Result.andThen]
    exact hK' _ _ (by simpa using h A c r w (by simpa using HO) (Kp.refl _ _) (.inl rfl))
  · obtain ⟨b2', o2, rfl, _, hc2⟩ := hr.addr (by omega)
    have hc2' : ∀ j u, ys[j]? = some u → w.cell? ((⟨b2', o2, none⟩ : Addr).add j) = some u := fun j u hj => by
      have := hc2 j u hj
      unfold Addr.add
      split
      · rename_i e0; subst e0; simpa using this
      · exact this
    have hgrow : ∀ v' w', w'.ownsRow w.heap.size e 1 v' (n + m) (xs ++ ys) → w.grownBy w' none → wpList P ops Q rest (a.put o.dst v') w' := by
      intro v' w' ho hg
      obtain ⟨r', A', c', rfl, ho', hr'⟩ := Own.of_row ho
      refine h A' c' r' w' (ho'.mono hbase) ((Kp.of_grown hg).mono fun _ _ h => by cases h) (.inr ?_)
      obtain ⟨g, o', hrg, hA, hb, hlt⟩ := ho'.lt (by omega)
      exact ⟨g, hrg, hb, hlt⟩
    rcases hO with hO | ⟨g, off, cs, rfl, rfl, hb, hB, hc, ht⟩
    · refine wpList_append_grows (size := 1) w hgd s x t hop e i z bytes h1 hi hz0 hz1 hz2 h6 (by decide) A n c xs hs (fun _ => by omega) (by omega) (fun b _ j u hj => ?_) ⟨b2', o2, none⟩ m c2 ys hx (by omega) hc2' h1c (by omega) b1 b2 hgrow
      have := (List.getElem?_eq_some_iff.1 hj).1
      omega
    · refine wpList_append_arg (size := 1) w hgd s x t hop e i z bytes h1 hi hz0 hz1 hz2 h6 (by decide) g off n c xs hs (by omega) (fun j u hj => ?_) ⟨b2', o2, none⟩ m c2 ys hx (by omega) hc2' h1c (fun hroom j hj => ⟨?_, hB.frozen _⟩) b1 b2 (fun hroom => ?_) (fun _ => hgrow)
      · have hjn := (List.getElem?_eq_some_iff.1 hj).1
        rw [hB.cell, ← hj, ← ht, List.getElem?_take, if_pos (by omega), List.getElem?_drop]
      · rw [hB.cell, List.getElem?_eq_getElem (by omega)]; rfl
      · refine h (some ⟨g, off, none⟩) c (some g) _ ⟨by simp [hl, hm], hroom, hcm, .inr ⟨g, off, _, rfl, rfl, hb, blk_setCells ys (off + n * 1) w cs hB (by omega), by simp; omega, ?_⟩⟩ ((kp_setCells ys _ w).mono fun _ _ h => by rw [h]) (.inl rfl)
        rw [Nat.mul_one, List.drop_append_of_le_length (by simp; omega), ← ht, List.drop_take]
        rw [show off + n - off = n by omega, ← List.append_assoc, List.take_append_of_le_length (by simp; omega), List.take_of_length_le (by simp; omega)]

/-- make([]T, n), the elements of one cell. -/
theorem wpl_make {P : Program} (w : World) {ops : Array Oper} {rest : List Oper} {o : Oper} {a : Act} {Q : Exit → Act → World → Prop}
    (hg : o.guard = none) (l c : Operand) (t : TypeId) (hop : o.op = Op.makeSlice t l c) (e : TypeId) (z : Value) (bytes : Nat) (h1 : P.underlying t = some (.slice e))
    (hinfo : (P.info? e).map (fun i => (i.zero, i.size, i.bytes)) = some (some z, 1, bytes)) (hz : z.cells = #[z])
    (kl kc : IntKind) (L C : Int) (n : Nat) (hl : a.eval l = .int kl L) (hc : a.eval c = .int kc C) (hL : L = (n : Int)) (hC : C = (n : Int)) (b2 : bytes * n ≤ 281474976710656) (b3 : n ≤ maxLen)
    (hK : ∀ w', Blk w' w.heap.size e (List.replicate n z) → Kp0 w w' → wpList P ops Q rest (a.put o.dst (.slice (some ⟨w.heap.size, 0, none⟩) n n)) w') :
    wpList P ops Q (o :: rest) a w := by
  obtain ⟨i, hi, hz'⟩ := Option.map_eq_some_iff.1 hinfo
  simp only [Prod.mk.injEq] at hz'
  obtain ⟨hz0, hz1, hz2⟩ := hz'
  subst hz2
  refine wpList_make_full (size := 1) w hg l c t hop w.heap.size e i z h1 hi hz0 hz1 kl kc L C n hl hc hL hC b2 b3 (Nat.le_refl _) ?_
  intro w' ho hgr
  refine hK w' ?_ ((Kp.of_grown hgr).mono fun _ _ h => by cases h)
  obtain ⟨h2, h3⟩ := ho
  rcases h3 with ⟨h3, _⟩ | ⟨g, cap, cur, hv, hb, hh, hn, hm, hs, ht⟩
  · cases h3
  · injection hv with hv1 hv2 hv3
    injection hv1 with hv1
    injection hv1 with hv1
    subst hv1
    subst hv3
    rw [hz, Nat.mul_one, toList_madeCells_one] at ht
    rw [List.take_of_length_le (by simp [hs])] at ht
    unfold Blk
    rw [hh, ← ht]

theorem rd_new (w : World) (e : TypeId) (cs : List Value) : Rd (w.alloc (.cells cs.toArray e)) (some ⟨w.heap.size, 0, none⟩) cs :=
  .inr ⟨w.heap.size, 0, rfl, fun j _ => by rw [(Blk.new w e cs).cell, Nat.zero_add]⟩
/-- append(s, x, y, ..): the elements have just been laid into a block of their own. -/
theorem wpl_appendN {P : Program} (W : World) {ops : Array Oper} {rest : List Oper} {o : Oper} {a : Act} {Q : Exit → Act → World → Prop} (hgd : o.guard = none) (s x : Operand) (t : TypeId)
    (hop : o.op = Op.call { callee := Callee.builtin Builtin.append, args := #[s, x], argTypes := #[t, t] })
    (e : TypeId) (z : Value) (bytes : Nat) (h1 : P.underlying t = some (.slice e)) (hinfo : (P.info? e).map (fun i => (i.zero, i.size, i.bytes)) = some (some z, 1, bytes)) (h6 : z.cells.size = 1)
    (base : Nat) (r : Option Nat) (A : Option Addr) (n c : Nat) (xs : List Value) (hs : a.eval s = .slice A n c) (HO : Own W base e r A n c xs)
    (m : Nat) (ys : List Value) (hx : a.eval x = .slice (some ⟨W.heap.size, 0, none⟩) m m) (hm : ys.length = m) (h1c : ys.all (·.oneCell') = true) (hbase : base ≤ W.heap.size)
    (b2 : (n + m) * bytes ≤ 140737488355328) (b3 : 0 < bytes)
    (h : ∀ A' c' r' w', Own w' base e r' A' (n + m) c' (xs ++ ys) → Kp (fun k => some k = r) W w' → (r' = r ∨ ∃ k, r' = some k ∧ W.heap.size ≤ k ∧ k < w'.heap.size) → wpList P ops Q rest (a.put o.dst (.slice A' (n + m) c')) w') :
    wpList P ops Q (o :: rest) a (W.alloc (.cells ys.toArray e)) := by
  have hb : n + m ≤ 140737488355328 := Nat.le_trans (Nat.le_mul_of_pos_right _ b3) b2
  refine wpl_append _ hgd s x t hop e z bytes h1 hinfo h6 base r A n c xs hs (HO.alloc _) _ m m ys hx hm (rd_new W e ys) (fun u hu => List.all_eq_true.1 h1c u hu) (by simp; omega) (by simp only [maxLen]; omega) b2 ?_
  intro A' c' r' w' hO hk hr
  refine h A' c' r' w' hO ((((Kp.refl (fun _ => False) W).alloc _).mono (fun _ _ h => h.elim)).trans hk (fun _ _ h => h)) (hr.imp id fun ⟨k, h1, h2, h3⟩ => ⟨k, h1, by simp at h2; omega, h3⟩)

/-- Bytes as a string. -/
def bstr (xs : List UInt8) : ByteArray := ⟨xs.toArray⟩
theorem strOfNums_bytes (xs : List UInt8) : strOfNums (xs.map fun b => (b.toNat : Int)) = bstr xs := by
  unfold strOfNums bstr
  congr 2
  rw [List.map_map]
  conv => rhs; rw [← List.map_id xs]
  apply List.map_congr_left
  intro b _
  simp
/-- string(b). -/
theorem run_conv {P : Program} (src dst e : TypeId) (hs : P.underlying src = some (.slice e)) (he : P.underlying e = some (.int .u8)) (hd : P.underlying dst = some .string)
    (w : World) (A : Option Addr) (xs : List UInt8) (n c : Nat) (hn : xs.length = n) (hr : RdB w A xs) : (convert src dst (.slice A n c)).run P w = .ok (.string (bstr xs)) w := by
  rcases Nat.eq_zero_or_pos n with h0 | h0
  · subst h0
    obtain rfl : xs = [] := List.eq_nil_of_length_eq_zero hn
    cases A with
    | none => exact run_convert_bytes_nil w src e hs he 0 c dst hd
    | some a =>
      rw [run_convert_bytes_string w src dst e _ 0 c hs he hd]
      simp [Conv.bytesToString, loadCells, loadCellsFrom]
      rfl
  · obtain ⟨b, o, rfl, _, hc⟩ := Rd.addr hr (by rw [length_bv]; omega)
    rw [← strOfNums_bytes]
    refine run_convert_bytes_arg w src e hs he b o n c _ (by simpa using hn) (fun i hi => ?_) dst hd
    have := hc i _ (bv_get xs i (by omega))
    rw [this]
    simp [List.getD_eq_getElem?_getD, List.getElem?_eq_getElem (show i < xs.length by omega)]

theorem run_gtr_some {P : Program} (t : TypeId) (i j : Int) (w : World) : ∃ b, (binOp .gtr t (.int .i64 i) (.int .i64 j)).run P w = .ok (.bool b) w := by
  refine ⟨decide (j < i), ?_⟩
  simp [go_sem, binOp]
/-- A comparison of which only that it answers is told. -/
theorem wpl_gtr_any {P : Program} {w : World} {ops : Array Oper} {rest : List Oper} {o : Oper} {a : Act} {Q : Exit → Act → World → Prop} (x y : Operand) (t t' : TypeId) (ho : o.op = .binOp .gtr t x y t') (i j : Int) (hW : Region.wanted o (yielded ops a.tmps) = true)
    (hx : a.eval x = .int .i64 i) (hy : a.eval y = .int .i64 j) (h : ∀ b : Bool, wpList P ops Q rest (a.put o.dst (.bool b)) w) : wpList P ops Q (o :: rest) a w := by
  obtain ⟨b, hb⟩ := run_gtr_some (P := P) t i j w
  unfold wpList
  rw [if_pos hW]
  left
  unfold Oper.wp
  have : (execOp a.eval o).run P w = .ok (.value (.bool b)) w := by
    simp [execOp, ho, hx, hy, hb, eqGuard]
  rw [this]
  exact h b

end Go.Proofs.Ythnjhhohfhnhgaa
