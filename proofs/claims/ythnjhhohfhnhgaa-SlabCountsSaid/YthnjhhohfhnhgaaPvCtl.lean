/- The logic of pure values: code, calls, contracts. -/
import Derived.Test.YthnjhhohfhnhgaaPvRun
namespace Go.Proofs.Ythnjhhohfhnhgaa
open Go Go.RowKit

structure ExtK (k : Nat) (c c' : Cx) : Prop where
  os : c'.w.os = c.w.os
  tape : c'.w.tape = c.w.tape
  output : c'.w.output = c.w.output
  size : c.w.heap.size ≤ c'.w.heap.size
  V : c'.V = c.V
  born : ∀ i, i < k → c.B i → c'.B i
  other : ∀ q, q < c.w.heap.size → (∀ i b, c.H i = some b → (c.φ i).1 ≠ q) → c'.w.heap[q]? = c.w.heap[q]?
  prot : ∀ i b, c.H i = some b → ∀ j, j < (c.φ i).2 + b.lo → c'.w.cell? ⟨(c.φ i).1, j, none⟩ = c.w.cell? ⟨(c.φ i).1, j, none⟩
  mine : ∀ i x, c'.H i = some x → (∃ j y, c.H j = some y ∧ (i < k ∨ j < k → j = i) ∧ (c.φ j).1 = (c'.φ i).1 ∧ (c.φ j).2 + y.lo ≤ (c'.φ i).2 + x.lo) ∨ c.w.heap.size ≤ (c'.φ i).1
  gen : ∀ i b', i < k → c.B i → c'.H i = some b' → ∃ b, c.H i = some b ∧ b.gen ≤ b'.gen ∧ (b.gen = b'.gen → c'.φ i = c.φ i ∧ b'.es = b.es ∧ msize c.w (c.φ i).1 ≤ msize c'.w (c.φ i).1)
theorem Ext.toK {c c' : Cx} (h : Ext c c') (k : Nat) : ExtK k c c' :=
  ⟨h.os, h.tape, h.output, h.size, h.V, fun i _ => h.born i, h.other, h.prot, fun i x hx => (h.mine i x hx).imp (fun ⟨y, h1, h2, h3⟩ => ⟨i, y, h1, fun _ => rfl, h2, h3⟩) id, fun i b' _ => h.gen i b'⟩
theorem ExtK.own {k : Nat} {c c' : Cx} (h : ExtK k c c') {q j : Nat} (hk : q < c.w.heap.size) (ho : c'.own q j) : c.own q j := by
  obtain ⟨i, x, hx, e, hle⟩ := ho
  rcases h.mine i x hx with ⟨i', y, hy, _, e1, h1⟩ | h1
  · exact ⟨i', y, hy, e1.trans e, by omega⟩
  · omega
theorem ExtK.cell {k : Nat} {c c' : Cx} (h : ExtK k c c') {q j : Nat} (hk : q < c.w.heap.size) (hn : ¬ c.own q j) : c'.w.cell? ⟨q, j, none⟩ = c.w.cell? ⟨q, j, none⟩ := by
  by_cases h1 : ∃ i b, c.H i = some b ∧ (c.φ i).1 = q
  · obtain ⟨i, b, hb, rfl⟩ := h1
    refine h.prot i b hb j ?_
    rcases Nat.lt_or_ge j ((c.φ i).2 + b.lo) with h2 | h2
    · exact h2
    · exact absurd ⟨i, b, hb, rfl, h2⟩ hn
  · have := h.other q hk (fun i b hb e => h1 ⟨i, b, hb, e⟩)
    simp only [World.cell?, this]
theorem ExtK.trans {q : Nat} {a b c : Cx} (h : ExtK q a b) (k : ExtK q b c) (hs : HSim a) : ExtK q a c := by
  refine ⟨k.os.trans h.os, k.tape.trans h.tape, k.output.trans h.output, Nat.le_trans h.size k.size, k.V.trans h.V, fun i hq hi => k.born i hq (h.born i hq hi), ?_, ?_, ?_, ?_⟩
  · intro m hm hn
    refine (k.other m (Nat.lt_of_lt_of_le hm h.size) (fun i x hx e => ?_)).trans (h.other m hm hn)
    rcases h.mine i x hx with ⟨j, y, hy, _, e1, _⟩ | h1
    · exact hn j y hy (e1.trans e)
    · omega
  · intro i x hx j hj
    have hlt := hs.lt hx
    refine Eq.trans ?_ (h.prot i x hx j hj)
    refine k.cell (Nat.lt_of_lt_of_le hlt h.size) fun ho => ?_
    obtain ⟨i', y, hy, e, hle⟩ := h.own hlt ho
    obtain rfl := hs.inj i' i y x hy hx e
    rw [hx] at hy
    injection hy with hy
    subst hy
    omega
  · intro i x hx
    rcases k.mine i x hx with ⟨j, y, hy, hj, e1, h1⟩ | h1
    · rcases h.mine j y hy with ⟨j', z, hz, hj', e2, h2⟩ | h2
      · refine .inl ⟨j', z, hz, ?_, e2.trans e1, by omega⟩
        rintro (h3 | h3)
        · have h4 := hj (.inl h3)
          subst h4
          exact hj' (.inl h3)
        · have h4 := hj' (.inr h3)
          subst h4
          exact hj (.inr h3)
      · exact .inr (by omega)
    · exact .inr (Nat.le_trans h.size h1)
  · intro i z hq hB hz
    obtain ⟨y, hy, hg, hsame⟩ := k.gen i z hq (h.born i hq hB) hz
    obtain ⟨x, hx, hg2, hsame2⟩ := h.gen i y hq hB hy
    refine ⟨x, hx, Nat.le_trans hg2 hg, fun e => ?_⟩
    obtain ⟨e1, e2, e3⟩ := hsame (by omega)
    obtain ⟨f1, f2, f3⟩ := hsame2 (by omega)
    exact ⟨e1.trans f1, e2.trans f2, Nat.le_trans f3 (by rw [← f1]; exact e3)⟩
theorem ExtK.full {k : Nat} {c c' : Cx} (h : ExtK k c c') (hB : ∀ i, c.B i → i < k) (hs : HSim c) : Ext c c' :=
  ⟨h.os, h.tape, h.output, h.size, h.V, fun i hi => h.born i (hB i hi) hi, h.other, h.prot, fun i x hx => (h.mine i x hx).imp (fun ⟨j, y, h1, h2, h3, h4⟩ => by
    have := h2 (.inr (hB j (hs.born j y h1)))
    subst this
    exact ⟨y, h1, h3, h4⟩) id, fun i b' hi => h.gen i b' (hB i hi) hi⟩
/-- The mark of a loop over a function among an activation's deferred calls. -/
abbrev mark (D : Nat) : Deferred := { target := .collected D, args := #[] }
/-- The marks that came since; each one's block is open yet. -/
def Marks (c c' : Cx) (a a' : Act) : Prop := ∃ ds : List Nat, a'.defers = ds.map mark ++ a.defers ∧ ds.Nodup ∧ ∀ D ∈ ds, c.w.heap.size ≤ D ∧ c'.w.heap[D]? = some (.deferred (some []))
theorem Marks.same {c c' : Cx} {a a' : Act} (h : a'.defers = a.defers) : Marks c c' a a' := ⟨[], h, List.nodup_nil, fun _ h => by cases h⟩
theorem no_own {c : Cx} (hs : HSim c) {D : Nat} {l : Option (List Deferred)} (h : c.w.heap[D]? = some (.deferred l)) : ∀ i b, c.H i = some b → (c.φ i).1 ≠ D := by
  intro i b hb e
  rcases hs.blk i b hb with ⟨_, cs, ty, h1, _⟩ | ⟨_, es, cl, h1, _⟩
  · rw [e, h] at h1; cases h1
  · rw [e, h] at h1; cases h1
theorem Marks.trans {q : Nat} {x y z : Cx} {a b c : Act} (h : Marks x y a b) (k : Marks y z b c) (hxy : x.w.heap.size ≤ y.w.heap.size) (hyz : ExtK q y z) (hs : HSim y) : Marks x z a c := by
  obtain ⟨d1, e1, n1, m1⟩ := h
  obtain ⟨d2, e2, n2, m2⟩ := k
  have lt1 : ∀ D ∈ d1, D < y.w.heap.size := fun D hD => (Array.getElem?_eq_some_iff.1 (m1 D hD).2).1
  refine ⟨d2 ++ d1, by rw [e2, e1, List.map_append, List.append_assoc], List.nodup_append.2 ⟨n2, n1, fun D hD D' hD' e => ?_⟩, fun D hD => ?_⟩
  · subst e
    have := (m2 D hD).1
    have := lt1 D hD'
    omega
  · rcases List.mem_append.1 hD with h | h
    · exact ⟨Nat.le_trans hxy (m2 D h).1, (m2 D h).2⟩
    · exact ⟨(m1 D h).1, (hyz.other D (lt1 D h) (no_own hs (m1 D h).2)).trans (m1 D h).2⟩
/-- What is reached from c; the numbers below k are as they were. -/
structure ReachK (P : Program) (N k : Nat) (c : Cx) (a : Act) (T : Nat → PV) (H : Nat → Option Blk') (n : Nat) (c' : Cx) (a' : Act) : Prop where
  ext : ExtK k c c'
  hs : HSim c'
  ts : TSim c' T a' N
  heap : c'.H = H
  born : ∀ i, c'.B i → i < n
  defers : Marks c c' a a'
theorem Reach.toK {P : Program} {N : Nat} {c c' : Cx} {a a' : Act} {T : Nat → PV} {H : Nat → Option Blk'} {n : Nat} (h : Reach P N c a T H n c' a') (k : Nat) : ReachK P N k c a T H n c' a' := ⟨h.ext.toK k, h.hs, h.ts, h.heap, h.born, .same h.defers⟩
theorem ReachK.refl {P : Program} {N k : Nat} {c : Cx} {a : Act} {T : Nat → PV} {H : Nat → Option Blk'} {n : Nat} (hs : HSim c) (ts : TSim c T a N) (hH : c.H = H) (hB : ∀ i, c.B i → i < n) : ReachK P N k c a T H n c a := (Reach.refl hs ts hH hB).toK k
theorem ReachK.trans {P : Program} {N q : Nat} {x y z : Cx} {a b c : Act} {T T2 : Nat → PV} {H H2 : Nat → Option Blk'} {n n2 : Nat} (h : ReachK P N q x a T H n y b) (k : ReachK P N q y b T2 H2 n2 z c) (hs : HSim x) : ReachK P N q x a T2 H2 n2 z c :=
  ⟨h.ext.trans k.ext hs, k.hs, k.ts, k.heap, k.born, h.defers.trans k.defers h.ext.size k.ext h.hs⟩
/-- Code, begun where s tells slots and own blocks, comes to an exit and a state that Q lets in; blocks below k0 keep their numbers. -/
def lwp (R0 : Option Nat) (P : Program) (N k0 : Nat) (c : Code) (Q : Exit → LSt → Prop) (s : LSt) : Prop :=
  ∀ (m : Nat) (x : Cx) (a : Act), HSim x → TSim x s.T a N → x.H = s.H → (∀ i, x.B i → i < s.n) →
    c.wpIn (rf R0) m P (fun e a' w' => ∃ s' x', Q e s' ∧ x'.w = w' ∧ ReachK P N k0 x a s'.T s'.H s'.n x' a') a x.w

theorem Reach.trans {P : Program} {N : Nat} {x y z : Cx} {a b c : Act} {T T2 : Nat → PV} {H H2 : Nat → Option Blk'} {n n2 : Nat} (h : Reach P N x a T H n y b) (k : Reach P N y b T2 H2 n2 z c) (hs : HSim x) : Reach P N x a T2 H2 n2 z c :=
  ⟨h.ext.trans k.ext hs, k.hs, k.ts, k.heap, k.born, k.defers.trans h.defers⟩

section
variable {R0 : Option Nat} {P : Program} {N k0 : Nat} {Q : Exit → LSt → Prop} {s : LSt}
theorem lwp_mono {c : Code} {Q' : Exit → LSt → Prop} (h : lwp R0 P N k0 c Q s) (hq : ∀ e t, Q e t → Q' e t) : lwp R0 P N k0 c Q' s :=
  fun m x a hs ts hH hB => wpIn_mono (h m x a hs ts hH hB) fun e _ _ ⟨s', x', h1, h2⟩ => ⟨s', x', hq _ _ h1, h2⟩
theorem lwp_skip (h : Q .normal s) : lwp R0 P N k0 .skip Q s := fun _ x _ hs ts hH hB => wpIn_skip ⟨s, x, h, rfl, .refl hs ts hH hB⟩
theorem lwp_ret (h : Q .ret s) : lwp R0 P N k0 .ret Q s := fun _ x _ hs ts hH hB => wpIn_ret ⟨s, x, h, rfl, .refl hs ts hH hB⟩
theorem lwp_exit {id : Nat} (h : Q (.exit id) s) : lwp R0 P N k0 (.exit id) Q s := fun _ x _ hs ts hH hB => wpIn_exit ⟨s, x, h, rfl, .refl hs ts hH hB⟩
/-- What follows on a normal end. -/
def thenL (K : LSt → Prop) (Q : Exit → LSt → Prop) : Exit → LSt → Prop
  | .normal, t => K t
  | e, t => Q e t
theorem lwp_seq {c d : Code} (K : LSt → Prop) (hK : ∀ t, K t → lwp R0 P N k0 d Q t) (h : lwp R0 P N k0 c (thenL K Q) s) : lwp R0 P N k0 (.seq c d) Q s := by
  intro m x a hs ts hH hB
  refine wpIn_seq (wpIn_mono (h m x a hs ts hH hB) ?_)
  rintro e a' w' ⟨s', x', hq, rfl, hR⟩
  cases e with
  | normal =>
    refine wpIn_mono (hK s' hq m x' a' hR.hs hR.ts hR.heap hR.born) ?_
    rintro e2 a2 w2 ⟨s2, x2, hq2, e3, hR2⟩
    exact ⟨s2, x2, hq2, e3, hR.trans hR2 hs⟩
  | _ => exact ⟨s', x', hq, rfl, hR⟩
theorem lwp_seq_k {c d : Code} (h : ∀ K : LSt → Prop, (∀ t, lwp R0 P N k0 d Q t → K t) → lwp R0 P N k0 c (thenL K Q) s) : lwp R0 P N k0 (.seq c d) Q s := lwp_seq _ (fun _ h => h) (h _ fun _ h => h)
theorem lwp_cond {c : Operand} {d e : Code} {b : Bool} (hc : ev s.T c = .bool b) (ht : b = true → lwp R0 P N k0 d Q s) (hf : b = false → lwp R0 P N k0 e Q s) : lwp R0 P N k0 (.cond c d e) Q s := by
  intro m x a hs ts hH hB
  have hv := ev_rz ts c
  rw [hc] at hv
  simp only [Rz] at hv
  exact Go.wpIn_cond_split hv (fun h => ht h m x a hs ts hH hB) (fun h => hf h m x a hs ts hH hB)
def inBlk (id : Nat) (Q : Exit → LSt → Prop) : Exit → LSt → Prop
  | .exit j, t => if j = id then Q .normal t else Q (.exit j) t
  | e, t => Q e t
theorem lwp_block {id : Nat} {c : Code} (h : lwp R0 P N k0 c (inBlk id Q) s) : lwp R0 P N k0 (.block id c) Q s := by
  intro m x a hs ts hH hB
  refine wpIn_block (wpIn_mono (h m x a hs ts hH hB) ?_)
  rintro e a' w' ⟨s', x', hq, h1, hR⟩
  cases e with
  | exit j =>
    simp only [inBlk] at hq
    simp only [Exit.inBlock]
    split at hq
    · rename_i h2; rw [if_pos h2]; exact ⟨s', x', hq, h1, hR⟩
    · rename_i h2; rw [if_neg h2]; exact ⟨s', x', hq, h1, hR⟩
  | _ => exact ⟨s', x', hq, h1, hR⟩

theorem wp_loop_k {F : Fence} {m : Nat} {c : Code} {Q : Exit → Act → World → Prop} {a : Act} {w : World} (I : Nat → Act → World → Prop) (k : Nat) (h₀ : I k a w)
    (round : ∀ k a w, I k a w → c.wpIn F m P (Exit.then (fun a' w' => ∃ k', k' < k ∧ I k' a' w') Q) a w) : (Code.loop c).wpIn F m P Q a w := by
  intro b kk cs hro hb hr
  have key : ∀ n a w, I n a w → ∃ e a' w', Q e a' w' ∧ ArrivesIn (Machine.fenced P F) P (lone (b.atR a (.code c :: .inLoop c :: kk)) cs w) b kk cs e a' w' := by
    intro n
    induction n using Nat.strongRecOn with
    | _ n ih =>
      intro a w hI
      obtain ⟨e, a₁, w₁, hq, harr⟩ := round n a w hI b (.inLoop c :: kk) cs hro hb hr
      cases e with
      | normal =>
        obtain ⟨k', hlt, hI₁⟩ := hq
        obtain ⟨e₂, a₂, w₂, hq₂, harr₂⟩ := ih k' hlt a₁ w₁ hI₁
        exact ⟨e₂, a₂, w₂, hq₂, .of_steps (StepsIn.trans harr (.one (fenced_calm hb hr rfl) stepR_inLoop)) harr₂⟩
      | exit id => exact ⟨_, a₁, w₁, hq, .pass (x := .inLoop c) rfl (fun _ _ => .inl (by simp)) harr⟩
      | goto l => exact ⟨_, a₁, w₁, hq, .pass (x := .inLoop c) rfl (fun _ _ => .inl (by simp)) harr⟩
      | ret => exact ⟨_, a₁, w₁, hq, .pass (x := .inLoop c) rfl (fun _ _ => .inl (by simp)) harr⟩
      | panic ch => exact ⟨_, a₁, w₁, hq, .pass (x := .inLoop c) rfl (fun _ _ => .inl (by simp)) harr⟩
      | outgrown => exact ⟨_, a₁, w₁, hq, .pass (x := .inLoop c) rfl (fun _ _ => .inl (by simp)) harr⟩
  obtain ⟨e, a', w', hq, harr⟩ := key k a w h₀
  exact ⟨e, a', w', hq, .of_steps (.one (fenced_calm hb hr rfl) stepR_loop) harr⟩
/-- Less is told: slots and own blocks are let go. -/
structure Less (s t : LSt) : Prop where
  T : ∀ i c v, Rz c (s.T i) v → Rz c (t.T i) v
  H : ∀ i b, t.H i = some b → s.H i = some b
  n : s.n ≤ t.n
theorem Less.refl (s : LSt) : Less s s := ⟨fun _ _ _ h => h, fun _ _ h => h, Nat.le_refl _⟩
theorem Less.reach {s t : LSt} (h : Less s t) {x : Cx} {a : Act} (hs : HSim x) (ts : TSim x s.T a N) (hH : x.H = s.H) (hB : ∀ i, x.B i → i < s.n) : Reach P N x a t.T t.H t.n { x with H := t.H } a := by
  have he : Ext x { x with H := t.H } := ⟨rfl, rfl, rfl, Nat.le_refl _, rfl, fun _ h => h, fun _ _ _ => rfl, fun _ _ _ _ _ => rfl,
    fun i b hb => .inl ⟨b, by rw [hH]; exact h.H i b hb, rfl, Nat.le_refl _⟩, fun i b _ hb => ⟨b, by rw [hH]; exact h.H i b hb, Nat.le_refl _, fun _ => ⟨rfl, rfl, Nat.le_refl _⟩⟩⟩
  have hb : ∀ i b, t.H i = some b → x.H i = some b := fun i b hb => by rw [hH]; exact h.H i b hb
  refine ⟨he, ⟨fun i b hi => hs.born i b (hb i b hi), fun i b hi => ?_, fun i j b b' h1 h2 => hs.inj i j b b' (hb i b h1) (hb j b' h2), hs.Vlt, fun i b hi => hs.Vown i b (hb i b hi)⟩, ⟨ts.size, fun i => ?_⟩, rfl, fun i hi => Nat.lt_of_lt_of_le (hB i hi) h.n, rfl⟩
  · exact (hs.blk i b (hb i b hi)).ext he
  · exact h.T i _ _ (Rz_ext he _ _ (ts.at_ i))
theorem lwp_less {c : Code} {t : LSt} (hl : Less s t) (h : lwp R0 P N k0 c Q t) : lwp R0 P N k0 c Q s := by
  intro m x a hs ts hH hB
  have hR : ReachK P N k0 x a t.T t.H t.n { x with H := t.H } a := (hl.reach hs ts hH hB).toK k0
  refine wpIn_mono (h m { x with H := t.H } a hR.hs hR.ts rfl hR.born) ?_
  rintro e a' w' ⟨s', x', hq, h1, hR2⟩
  exact ⟨s', x', hq, h1, hR.trans hR2 hs⟩
theorem lwp_loop {c : Code} (I : Nat → LSt → Prop) (k : Nat) (t : LSt) (hl : Less s t) (h0 : I k t)
    (round : ∀ k s, I k s → lwp R0 P N k0 c (thenL (fun s' => ∃ k' t', k' < k ∧ Less s' t' ∧ I k' t') Q) s) : lwp R0 P N k0 (.loop c) Q s := by
  refine lwp_less hl ?_
  intro m x a hs ts hH hB
  refine wp_loop_k (fun k a' w' => ∃ s' x', I k s' ∧ x'.w = w' ∧ ReachK P N k0 x a s'.T s'.H s'.n x' a') k ⟨t, x, h0, rfl, .refl hs ts hH hB⟩ ?_
  rintro k2 a2 w2 ⟨s2, x2, hI, rfl, hR⟩
  refine wpIn_mono (round k2 s2 hI m x2 a2 hR.hs hR.ts hR.heap hR.born) ?_
  rintro e a' w' ⟨s', x', hq, rfl, hR2⟩
  cases e with
  | normal =>
    obtain ⟨k', t', hlt, hls, hI'⟩ := hq
    exact ⟨k', hlt, t', { x' with H := t'.H }, hI', rfl, (hR.trans hR2 hs).trans ((hls.reach (P := P) hR2.hs hR2.ts hR2.heap hR2.born).toK k0) hs⟩
  | _ => exact ⟨s', x', hq, rfl, hR.trans hR2 hs⟩
theorem lwp_region {id : Nat} {l : List Oper} (h : Runs P N l.toArray l s.T s.H s.n [] (fun T H n _ => Q .normal ⟨T, H, n⟩)) (hnd : l.all nd = true := by rfl) : lwp R0 P N k0 (.region id l.toArray false) Q s := by
  intro m x a hs ts hH hB
  refine wpIn_region_lit (runs_list l s.T s.H s.n [] _ h hnd x a hs ts hH hB ?_)
  intro T' H' n' fp' hq c' a' hR
  exact ⟨⟨T', H', n'⟩, c', hq, rfl, hR.toK k0⟩
theorem lwp_region_any {id : Nat} {l : List Oper} (hm : P.follows .mixedOrders = true) (h : Runs P N l.toArray l s.T s.H s.n [] (fun T H n fp => ordOk l fp = true ∧ Q .normal ⟨T, H, n⟩)) (hnd : l.all nd = true := by rfl) : lwp R0 P N k0 (.region id l.toArray true) Q s := by
  intro m x a hs ts hH hB
  refine runs_any hm hnd h (fun _ _ _ _ hk => hk.1) x a hs ts hH hB ?_
  intro T' H' n' fp' hq c' a' hR
  exact ⟨⟨T', H', n'⟩, c', hq.2, rfl, hR.toK k0⟩
end

/-! ### Contracts -/
/-- A world without own blocks. -/
abbrev cl (w : World) (V : Nat → Nat → Prop) : Cx := ⟨w, fun _ => none, fun _ => False, fun _ => (0, 0), V⟩
/-- The call of g with what the trees tell returns what r tells; nothing that stood is turned. -/
def Ctr (P : Program) (g : FuncId) (xs : List PV) (r : PV) : Prop :=
  ∀ (w : World) (V : Nat → Nat → Prop) (vs : Array Value), (∀ k j, V k j → k < w.heap.size) → RzL (cl w V) xs vs.toList →
    Calls P g vs w fun e w' => ∃ u, e = .returned u ∧ Kp0 w w' ∧ Rz (cl w' V) r u

/-- Slots at the begin of a call. -/
def args (xs : List PV) : Nat → PV := fun i => xs.getD i .junk
theorem RzL_get {c : Cx} : ∀ (xs : List PV) (vs : List Value), RzL c xs vs → vs.length = xs.length ∧ ∀ i, Rz c (xs.getD i .junk) (vs.getD i undef)
  | [], vs, h => by
    simp only [RzL] at h
    subst h
    exact ⟨rfl, fun i => by simp [Rz]⟩
  | x :: xs, vs, h => by
    obtain ⟨u, us, rfl, h1, h2⟩ := h
    obtain ⟨h3, h4⟩ := RzL_get xs us h2
    refine ⟨by simp [h3], fun i => ?_⟩
    cases i with
    | zero => simpa using h1
    | succ i => simpa using h4 i
/-- One result. -/
def resSem (tmps : Array Value) : ResultVar → Sem Value
  | .tmp t => pure (tmps.getD t undef)
  | .cell b t => do loadVar t (← asAddr (tmps.getD b undef))
theorem results_eq (fn : Func) (tmps : Array Value) : results fn tmps = (do let vs ← fn.results.mapM (resSem tmps); pure (if h : vs.size = 1 then vs[0] else .tuple vs)) := by
  unfold results
  congr
def VarOk (P : Program) (N : Nat) (x : ResultVar) (s : LSt) (r : PV) : Prop :=
  ∀ (c : Cx) (a : Act), HSim c → TSim c s.T a N → c.H = s.H → ∃ u, (resSem a.tmps x).run P c.w = .ok u c.w ∧ Rz c r u
/-- All results. -/
def ResOk (P : Program) (N : Nat) (fn : Func) (s : LSt) (r : PV) : Prop :=
  ∀ (c : Cx) (a : Act), HSim c → TSim c s.T a N → c.H = s.H → ∃ u, (results fn a.tmps).run P c.w = .ok u c.w ∧ Rz c r u
theorem VarOk.tmp {P : Program} {N : Nat} {t : Nat} {s : LSt} {r : PV} (h : s.T t = r) : VarOk P N (.tmp t) s r := fun c a _ ts _ => ⟨_, rfl, h ▸ ts.at_ t⟩
theorem mapM_run {α : Type} {P : Program} {w : World} (f : α → Sem Value) : ∀ (l : List α) (us : List Value), us.length = l.length → (∀ (i : Nat) (x : α), l[i]? = some x → ∃ u, us[i]? = some u ∧ (f x).run P w = .ok u w) → (l.mapM f).run P w = .ok us w
  | [], us, h, _ => by
    obtain rfl : us = [] := List.eq_nil_of_length_eq_zero (by simpa using h)
    rfl
  | x :: l, us, h, hx => by
    cases us with
    | nil => simp at h
    | cons u us =>
      obtain ⟨u', h1, h2⟩ := hx 0 x rfl
      simp at h1
      subst h1
      have := mapM_run f l us (by simpa using h) (fun i y hy => hx (i + 1) y (by simpa using hy))
      rw [List.mapM_cons]
      simp [h2, this]
theorem mapM_arr {α : Type} {P : Program} {w : World} (f : α → Sem Value) (l : List α) (us : List Value) (h : us.length = l.length) (hx : ∀ (i : Nat) (x : α), l[i]? = some x → ∃ u, us[i]? = some u ∧ (f x).run P w = .ok u w) : (l.toArray.mapM f).run P w = .ok us.toArray w := by
  have := mapM_run f l us h hx
  rw [List.mapM_toArray]
  show (Sem.bind (l.mapM f) _).run P w = _
  rw [Sem.run_bind', this]
  rfl
theorem ResOk.none {P : Program} {N : Nat} {fn : Func} {s : LSt} (h : fn.results = #[]) : ResOk P N fn s (.tup []) := fun c a _ _ _ => ⟨.tuple #[], by simp [results, h], by simp [Rz, RzL]⟩
theorem vars_ok {P : Program} {N : Nat} {s : LSt} {c : Cx} {a : Act} (hs : HSim c) (ts : TSim c s.T a N) (hH : c.H = s.H) : ∀ (l : List ResultVar) (rs : List PV), l.length = rs.length → (∀ (i : Nat) (x : ResultVar), l[i]? = some x → VarOk P N x s (rs.getD i .junk)) → ∃ us : List Value, RzL c rs us ∧ us.length = l.length ∧
      ∀ (i : Nat) (x : ResultVar), l[i]? = some x → ∃ u, us[i]? = some u ∧ (resSem a.tmps x).run P c.w = .ok u c.w
  | [], rs, hl, _ => by
    obtain rfl : rs = [] := List.eq_nil_of_length_eq_zero hl.symm
    exact ⟨[], rfl, rfl, by simp⟩
  | x :: l, rs, hl, h1 => by
    cases rs with
    | nil => simp at hl
    | cons r rs =>
      obtain ⟨u, hr, hu⟩ := h1 0 x rfl c a hs ts hH
      obtain ⟨us, h3, h4, h5⟩ := vars_ok hs ts hH l rs (by simpa using hl) (fun i y hy => by simpa using h1 (i + 1) y (by simpa using hy))
      refine ⟨u :: us, ⟨u, us, rfl, by simpa using hu, h3⟩, by simp [h4], fun i y hy => ?_⟩
      cases i with
      | zero => simp at hy; subst hy; exact ⟨u, rfl, hr⟩
      | succ i => exact h5 i y (by simpa using hy)
theorem ResOk.one {P : Program} {N : Nat} {fn : Func} {s : LSt} {x : ResultVar} {r : PV} (h : fn.results = #[x]) (h1 : VarOk P N x s r) : ResOk P N fn s r := fun c a hs ts hH => by
  obtain ⟨u, hr, hu⟩ := h1 c a hs ts hH
  refine ⟨u, ?_, hu⟩
  have := mapM_arr (P := P) (w := c.w) (resSem a.tmps) [x] [u] rfl (fun i y hy => by
    cases i with
    | zero => simp at hy; subst hy; exact ⟨u, rfl, hr⟩
    | succ i => simp at hy)
  rw [results_eq, h]
  show (Sem.bind (Array.mapM (resSem a.tmps) #[x]) _).run P c.w = _
  rw [Sem.run_bind', this]
  rfl
theorem ResOk.many {P : Program} {N : Nat} {fn : Func} {s : LSt} (l : List ResultVar) {rs : List PV} (h : fn.results = l.toArray) (hl : l.length = rs.length) (h2 : 2 ≤ l.length) (h1 : ∀ (i : Nat) (x : ResultVar), l[i]? = some x → VarOk P N x s (rs.getD i .junk)) : ResOk P N fn s (.tup rs) := fun c a hs ts hH => by
  obtain ⟨us, h3, h4, h5⟩ := vars_ok hs ts hH l rs hl h1
  have hm := mapM_arr (resSem a.tmps) l us h4 h5
  refine ⟨.tuple us.toArray, ?_, us.toArray, rfl, h3⟩
  rw [results_eq, h]
  show (Sem.bind (Array.mapM (resSem a.tmps) l.toArray) _).run P c.w = _
  rw [Sem.run_bind', hm]
  simp only [Result.andThen]
  rw [dif_neg (by simp; omega)]
  rfl
end Go.Proofs.Ythnjhhohfhnhgaa
