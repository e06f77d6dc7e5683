/- The logic of pure values: what a slot holds is told by a tree, not by addresses; the call's own memory is told block by block. -/
import Derived.Test.YthnjhhohfhnhgaaMem
import Derived.OrdersHeld
import Derived.Deep.Upon
namespace Go.Proofs.Ythnjhhohfhnhgaa
open Go Go.RowKit

/-- Values as a tree. mp: an own map; rm: a map that is only read (keys and values by turns). ro: a slice, nil or not, that is only read (full: it has no room behind it): n elements, their cells. rp: a pointer to cells that are only read.
os, op: a slice (n elements), a pointer, into the own block number b at cell off, as of generation g. -/
inductive PV where
  | junk
  | int (k : IntKind) (n : Int)
  | bool (b : Bool)
  | str (s : ByteArray)
  | nilp
  | nils
  | nilf
  | nili
  | ro (full : Bool) (n : Nat) (xs : List PV)
  | rp (xs : List PV)
  | os (b g off n : Nat)
  | op (b g off : Nat)
  | agg (xs : List PV)
  | tup (xs : List PV)
  | fn (f : Fn) (first captured : List PV)
  | mp (b g : Nat)
  | rm (xs : List PV)

/-- An own block: its generation, how many cells an element has (0: it is a map, cells are keys and values by turns), how many cells at its begin are never written any more, its cells. -/
structure Blk' where
  gen : Nat
  es : Nat
  lo : Nat
  cells : List PV

/-- A world; the own blocks; which numbers were ever given; where they lie; cells that nothing which is only read may lead to. -/
structure Cx where
  w : World
  H : Nat → Option Blk'
  B : Nat → Prop
  φ : Nat → Nat × Nat
  V : Nat → Nat → Prop

def msize (w : World) (k : Nat) : Nat := match w.heap[k]? with | some (.cells c _ _) => c.size | _ => 0
def Cx.own (c : Cx) (k j : Nat) : Prop := ∃ i b, c.H i = some b ∧ (c.φ i).1 = k ∧ (c.φ i).2 + b.lo ≤ j
def Cx.av (c : Cx) (k j : Nat) : Prop := c.V k j ∨ c.own k j

/-- Keys and values by turns. -/
def entL : List MapEntry → List Value
  | [] => []
  | e :: l => e.key :: e.val :: entL l
/-- The entries' marks of birth: apart, and of the past. -/
def MWf (es : Array MapEntry) (cl : Nat) : Prop := (es.toList.map (·.born)).Nodup ∧ ∀ e ∈ es.toList, e.born < cl
mutual
/-- The value v is, in this world, what the tree tells. -/
def Rz (c : Cx) : PV → Value → Prop
  | .junk, _ => True
  | .int k n, v => v = .int k n
  | .bool b, v => v = .bool b
  | .str s, v => v = .string s
  | .nilp, v => v = .pointer none
  | .nils, v => v = .slice none 0 0
  | .nilf, v => v = .nilFunc
  | .nili, v => v = .nilIface
  | .ro full n xs, v => ∃ A cap, v = .slice A n cap ∧ n ≤ cap ∧ (full = true → cap = n) ∧ (A = none → cap = 0) ∧ (xs = [] ∨ ∃ k o, A = some ⟨k, o, none⟩ ∧ RzAt c xs k o)
  | .rp xs, v => ∃ a, v = .pointer (some a) ∧ a.spot = none ∧ RzAt c xs a.block a.off
  | .os b g off n, v => (∃ A m cap, v = .slice A m cap) ∧ c.B b ∧ ∀ blk, c.H b = some blk → g ≤ blk.gen ∧ (g = blk.gen → 0 < blk.es ∧ ∃ a cap, v = .slice (some a) n cap ∧ n ≤ cap ∧ (cap = 0 ∨ a = ⟨(c.φ b).1, (c.φ b).2 + off, none⟩) ∧ (c.φ b).2 + off + cap * blk.es ≤ msize c.w (c.φ b).1)
  | .op b g off, v => (∃ A, v = .pointer A) ∧ c.B b ∧ ∀ blk, c.H b = some blk → g ≤ blk.gen ∧ (g = blk.gen → 0 < blk.es ∧ v = .pointer (some ⟨(c.φ b).1, (c.φ b).2 + off, none⟩))
  | .mp b g, v => (∃ q, v = .map q) ∧ c.B b ∧ ∀ blk, c.H b = some blk → g ≤ blk.gen ∧ (g = blk.gen → blk.es = 0 ∧ v = .map (some (c.φ b).1))
  | .rm xs, v => ∃ k es clock, v = .map (some k) ∧ c.w.heap[k]? = some (.map es clock) ∧ (∀ j, ¬ c.av k j) ∧ MWf es clock ∧ RzL c xs (entL es.toList)
  | .agg xs, v => ∃ cs, v = .agg cs ∧ RzL c xs cs.toList
  | .tup xs, v => ∃ cs, v = .tuple cs ∧ RzL c xs cs.toList
  | .fn f fs xs, v => ∃ as bs, v = .func f as bs ∧ RzL c fs as.toList ∧ RzL c xs bs.toList
/-- The cells from number o of block k on. -/
def RzAt (c : Cx) : List PV → Nat → Nat → Prop
  | [], _, _ => True
  | x :: xs, k, o => (∃ u, c.w.cell? ⟨k, o, none⟩ = some u ∧ ¬ c.av k o ∧ Rz c x u) ∧ RzAt c xs k (o + 1)
def RzL (c : Cx) : List PV → List Value → Prop
  | [], vs => vs = []
  | x :: xs, vs => ∃ u us, vs = u :: us ∧ Rz c x u ∧ RzL c xs us
end

/-- What a stretch of the run leaves alone. -/
structure Ext (c c' : Cx) : Prop where
  os : c'.w.os = c.w.os
  tape : c'.w.tape = c.w.tape
  output : c'.w.output = c.w.output
  size : c.w.heap.size ≤ c'.w.heap.size
  V : c'.V = c.V
  born : ∀ i, c.B i → c'.B i
  other : ∀ k, k < c.w.heap.size → (∀ i b, c.H i = some b → (c.φ i).1 ≠ k) → c'.w.heap[k]? = c.w.heap[k]?
  prot : ∀ i b, c.H i = some b → ∀ j, j < (c.φ i).2 + b.lo → c'.w.cell? ⟨(c.φ i).1, j, none⟩ = c.w.cell? ⟨(c.φ i).1, j, none⟩
  mine : ∀ i x, c'.H i = some x → (∃ y, c.H i = some y ∧ (c.φ i).1 = (c'.φ i).1 ∧ (c.φ i).2 + y.lo ≤ (c'.φ i).2 + x.lo) ∨ c.w.heap.size ≤ (c'.φ i).1
  gen : ∀ i b', c.B i → c'.H i = some b' → ∃ b, c.H i = some b ∧ b.gen ≤ b'.gen ∧ (b.gen = b'.gen → c'.φ i = c.φ i ∧ b'.es = b.es ∧ msize c.w (c.φ i).1 ≤ msize c'.w (c.φ i).1)

theorem Ext.refl (c : Cx) : Ext c c :=
  ⟨rfl, rfl, rfl, Nat.le_refl _, rfl, fun _ h => h, fun _ _ _ => rfl, fun _ _ _ _ _ => rfl, fun _ x h => .inl ⟨x, h, rfl, Nat.le_refl _⟩, fun _ b' _ h => ⟨b', h, Nat.le_refl _, fun _ => ⟨rfl, rfl, Nat.le_refl _⟩⟩⟩
theorem Ext.own {c c' : Cx} (h : Ext c c') {k j : Nat} (hk : k < c.w.heap.size) (ho : c'.own k j) : c.own k j := by
  obtain ⟨i, x, hx, e, hle⟩ := ho
  rcases h.mine i x hx with ⟨y, hy, e1, h1⟩ | h1
  · exact ⟨i, y, hy, e1.trans e, by omega⟩
  · omega
theorem Ext.av {c c' : Cx} (h : Ext c c') {k j : Nat} (hk : k < c.w.heap.size) (hn : ¬ c.av k j) : ¬ c'.av k j := by
  rintro (h1 | h1)
  · exact hn (.inl (h.V ▸ h1))
  · exact hn (.inr (h.own hk h1))
theorem Ext.cell {c c' : Cx} (h : Ext c c') {k j : Nat} (hk : k < c.w.heap.size) (hn : ¬ c.own k j) : c'.w.cell? ⟨k, j, none⟩ = c.w.cell? ⟨k, j, none⟩ := by
  by_cases h1 : ∃ i b, c.H i = some b ∧ (c.φ i).1 = k
  · obtain ⟨i, b, hb, rfl⟩ := h1
    refine h.prot i b hb j ?_
    rcases Nat.lt_or_ge j ((c.φ i).2 + b.lo) with h2 | h2
    · exact h2
    · exact absurd ⟨i, b, hb, rfl, h2⟩ hn
  · have := h.other k hk (fun i b hb e => h1 ⟨i, b, hb, e⟩)
    simp only [World.cell?, this]
theorem cell_lt {w : World} {k j : Nat} {u : Value} (h : w.cell? ⟨k, j, none⟩ = some u) : k < w.heap.size := World.block_lt_of_cell? w _ h

/-- What is told in c is told in c'. -/
structure Kept (c c' : Cx) : Prop where
  cell : ∀ k j u, c.w.cell? ⟨k, j, none⟩ = some u → ¬ c.av k j → c'.w.cell? ⟨k, j, none⟩ = some u ∧ ¬ c'.av k j
  map : ∀ k es cl, c.w.heap[k]? = some (.map es cl) → (∀ j, ¬ c.av k j) → c'.w.heap[k]? = some (.map es cl) ∧ ∀ j, ¬ c'.av k j
  born : ∀ i, c.B i → c'.B i
  gen : ∀ i b', c.B i → c'.H i = some b' → ∃ b, c.H i = some b ∧ b.gen ≤ b'.gen ∧ (b.gen = b'.gen → c'.φ i = c.φ i ∧ b'.es = b.es ∧ msize c.w (c.φ i).1 ≤ msize c'.w (c.φ i).1)
theorem Ext.kept {c c' : Cx} (h : Ext c c') : Kept c c' :=
  ⟨fun _ _ _ hc ha => ⟨(h.cell (cell_lt hc) (fun ho => ha (.inr ho))).trans hc, h.av (cell_lt hc) ha⟩, fun k es cl hm ha => by
    have hk := (Array.getElem?_eq_some_iff.1 hm).1
    exact ⟨(h.other k hk (fun i b hb e => ha _ (.inr ⟨i, b, hb, e, Nat.le_refl _⟩))).trans hm, fun j => h.av hk (ha j)⟩, h.born, h.gen⟩
mutual
theorem Rz_kept {c c' : Cx} (h : Kept c c') : ∀ (x : PV) (v : Value), Rz c x v → Rz c' x v
  | .junk, _, _ => trivial
  | .int _ _, _, hx => hx
  | .bool _, _, hx => hx
  | .str _, _, hx => hx
  | .nilp, _, hx => hx
  | .nils, _, hx => hx
  | .nilf, _, hx => hx
  | .nili, _, hx => hx
  | .ro full n xs, v, hx => by
    obtain ⟨A, cap, e, h1, h2, h3, h4⟩ := hx
    refine ⟨A, cap, e, h1, h2, h3, ?_⟩
    rcases h4 with h4 | ⟨k, o, e1, h4⟩
    · exact .inl h4
    · exact .inr ⟨k, o, e1, RzAt_kept h xs _ _ h4⟩
  | .rp xs, v, hx => by
    obtain ⟨a, e, h1, h4⟩ := hx
    exact ⟨a, e, h1, RzAt_kept h xs _ _ h4⟩
  | .os b g off n, v, hx => by
    obtain ⟨hsh, hB, hx⟩ := hx
    refine ⟨hsh, h.born _ hB, fun blk' hb' => ?_⟩
    obtain ⟨blk, hb, hg, hsame⟩ := h.gen b blk' hB hb'
    obtain ⟨h1, h2⟩ := hx blk hb
    refine ⟨Nat.le_trans h1 hg, fun e => ?_⟩
    obtain ⟨e1, e2, e3⟩ := hsame (by omega)
    obtain ⟨h0, a, cap, h3, h4, h5, h6⟩ := h2 (by omega)
    exact ⟨by rw [e2]; exact h0, a, cap, h3, h4, by rw [e1]; exact h5, by rw [e1, e2]; omega⟩
  | .op b g off, v, hx => by
    obtain ⟨hsh, hB, hx⟩ := hx
    refine ⟨hsh, h.born _ hB, fun blk' hb' => ?_⟩
    obtain ⟨blk, hb, hg, hsame⟩ := h.gen b blk' hB hb'
    obtain ⟨h1, h2⟩ := hx blk hb
    refine ⟨Nat.le_trans h1 hg, fun e => ?_⟩
    obtain ⟨e1, e2, e3⟩ := hsame (by omega)
    rw [e1, e2]
    exact h2 (by omega)
  | .mp b g, v, hx => by
    obtain ⟨hsh, hB, hx⟩ := hx
    refine ⟨hsh, h.born _ hB, fun blk' hb' => ?_⟩
    obtain ⟨blk, hb, hg, hsame⟩ := h.gen b blk' hB hb'
    obtain ⟨h1, h2⟩ := hx blk hb
    refine ⟨Nat.le_trans h1 hg, fun e => ?_⟩
    obtain ⟨e1, e2, e3⟩ := hsame (by omega)
    rw [e1, e2]
    exact h2 (by omega)
  | .rm xs, v, hx => by
    obtain ⟨k, es, cl, e, h1, h2, hw, h3⟩ := hx
    obtain ⟨h4, h5⟩ := h.map k es cl h1 h2
    exact ⟨k, es, cl, e, h4, h5, hw, RzL_kept h xs _ h3⟩
  | .agg xs, v, hx => by
    obtain ⟨cs, e, hl⟩ := hx
    exact ⟨cs, e, RzL_kept h xs _ hl⟩
  | .tup xs, v, hx => by
    obtain ⟨cs, e, hl⟩ := hx
    exact ⟨cs, e, RzL_kept h xs _ hl⟩
  | .fn f fs xs, v, hx => by
    obtain ⟨as, bs, e, h1, h2⟩ := hx
    exact ⟨as, bs, e, RzL_kept h fs _ h1, RzL_kept h xs _ h2⟩
theorem RzAt_kept {c c' : Cx} (h : Kept c c') : ∀ (xs : List PV) (k o : Nat), RzAt c xs k o → RzAt c' xs k o
  | [], _, _, _ => trivial
  | x :: xs, k, o, hx => by
    obtain ⟨⟨u, hc, ha, hu⟩, hr⟩ := hx
    exact ⟨⟨u, (h.cell k o u hc ha).1, (h.cell k o u hc ha).2, Rz_kept h x u hu⟩, RzAt_kept h xs k (o + 1) hr⟩
theorem RzL_kept {c c' : Cx} (h : Kept c c') : ∀ (xs : List PV) (vs : List Value), RzL c xs vs → RzL c' xs vs
  | [], _, hx => hx
  | x :: xs, vs, hx => by
    obtain ⟨u, us, e, hu, hr⟩ := hx
    exact ⟨u, us, e, Rz_kept h x u hu, RzL_kept h xs us hr⟩
end

theorem Rz_ext {c c' : Cx} (h : Ext c c') (x : PV) (v : Value) (hx : Rz c x v) : Rz c' x v := Rz_kept h.kept x v hx
theorem RzAt_ext {c c' : Cx} (h : Ext c c') (xs : List PV) (k o : Nat) (hx : RzAt c xs k o) : RzAt c' xs k o := RzAt_kept h.kept xs k o hx
theorem RzL_ext {c c' : Cx} (h : Ext c c') (xs : List PV) (vs : List Value) (hx : RzL c xs vs) : RzL c' xs vs := RzL_kept h.kept xs vs hx

/-- A block lies there as told. -/
def Lies (c : Cx) (o : Option Obj) (off : Nat) (b : Blk') : Prop :=
  (0 < b.es ∧ ∃ cs ty, o = some (.cells cs ty (0, 0)) ∧ off + b.cells.length ≤ cs.size ∧ ∀ j x, b.cells[j]? = some x → ∃ u, cs[off + j]? = some u ∧ Rz c x u) ∨
  ((b.es = 0 ∧ off = 0) ∧ ∃ es clock, o = some (.map es clock) ∧ MWf es clock ∧ RzL c b.cells (entL es.toList))
theorem Lies.got {c : Cx} {o : Option Obj} {off : Nat} {b : Blk'} (h : Lies c o off b) : ∃ x, o = some x := by
  rcases h with ⟨_, cs, ty, h, _⟩ | ⟨_, es, cl, h, _⟩
  · exact ⟨_, h⟩
  · exact ⟨_, h⟩
theorem Lies.row {c : Cx} {o : Option Obj} {off : Nat} {b : Blk'} (h : Lies c o off b) (he : 0 < b.es) : ∃ cs ty, o = some (.cells cs ty (0, 0)) ∧ off + b.cells.length ≤ cs.size ∧ ∀ j x, b.cells[j]? = some x → ∃ u, cs[off + j]? = some u ∧ Rz c x u := by
  rcases h with ⟨_, h⟩ | ⟨h, _⟩
  · exact h
  · omega
theorem Lies.kept {c c' : Cx} {o : Option Obj} {off : Nat} {b : Blk'} (h : Lies c o off b) (he : Kept c c') : Lies c' o off b := by
  rcases h with ⟨h0, cs, ty, h1, h2, h3⟩ | ⟨h0, es, cl, h1, hw, h2⟩
  · exact .inl ⟨h0, cs, ty, h1, h2, fun j x hx => let ⟨u, h4, h5⟩ := h3 j x hx; ⟨u, h4, Rz_kept he _ _ h5⟩⟩
  · exact .inr ⟨h0, es, cl, h1, hw, RzL_kept he _ _ h2⟩
theorem Lies.ext {c c' : Cx} {o : Option Obj} {off : Nat} {b : Blk'} (h : Lies c o off b) (he : Ext c c') : Lies c' o off b := h.kept he.kept
/-- The own blocks lie in memory as told. -/
structure HSim (c : Cx) : Prop where
  born : ∀ i b, c.H i = some b → c.B i
  blk : ∀ i b, c.H i = some b → Lies c c.w.heap[(c.φ i).1]? (c.φ i).2 b
  inj : ∀ i j b b', c.H i = some b → c.H j = some b' → (c.φ i).1 = (c.φ j).1 → i = j
  Vlt : ∀ k j, c.V k j → k < c.w.heap.size
  Vown : ∀ i b, c.H i = some b → ∀ j, (c.φ i).2 ≤ j → ¬ c.V (c.φ i).1 j
theorem HSim.lt {c : Cx} (h : HSim c) {i : Nat} {b : Blk'} (hb : c.H i = some b) : (c.φ i).1 < c.w.heap.size := by
  obtain ⟨x, h1⟩ := (h.blk i b hb).got
  exact (Array.getElem?_eq_some_iff.1 h1).1

theorem Ext.trans {a b c : Cx} (h : Ext a b) (k : Ext b c) (hs : HSim a) : Ext a c := by
  refine ⟨k.os.trans h.os, k.tape.trans h.tape, k.output.trans h.output, Nat.le_trans h.size k.size, k.V.trans h.V, fun i hi => k.born i (h.born i hi), ?_, ?_, ?_, ?_⟩
  · intro m hm hn
    refine (k.other m (Nat.lt_of_lt_of_le hm h.size) (fun i x hx e => ?_)).trans (h.other m hm hn)
    rcases h.mine i x hx with ⟨y, hy, e1, _⟩ | h1
    · exact hn i y hy (e1.trans e)
    · omega
  · intro i x hx j hj
    have hlt := hs.lt hx
    refine Eq.trans ?_ (h.prot i x hx j hj)
    refine k.cell (Nat.lt_of_lt_of_le hlt h.size) fun ho => ?_
    obtain ⟨i', y, hy, e, hle⟩ := h.own hlt ho
    obtain rfl := hs.inj i' i y x hy hx e
    rw [hx] at hy
    injection hy with hy
    subst hy
    omega
  · intro i x hx
    rcases k.mine i x hx with ⟨y, hy, e1, h1⟩ | h1
    · rcases h.mine i y hy with ⟨z, hz, e2, h2⟩ | h2
      · exact .inl ⟨z, hz, e2.trans e1, by omega⟩
      · exact .inr (by omega)
    · exact .inr (Nat.le_trans h.size h1)
  · intro i z hB hz
    obtain ⟨y, hy, hg, hsame⟩ := k.gen i z (h.born i hB) hz
    obtain ⟨x, hx, hg2, hsame2⟩ := h.gen i y hB hy
    refine ⟨x, hx, Nat.le_trans hg2 hg, fun e => ?_⟩
    obtain ⟨e1, e2, e3⟩ := hsame (by omega)
    obtain ⟨f1, f2, f3⟩ := hsame2 (by omega)
    exact ⟨e1.trans f1, e2.trans f2, Nat.le_trans f3 (by rw [← f1]; exact e3)⟩

/-- The slots hold what is told of them. -/
structure TSim (c : Cx) (T : Nat → PV) (a : Act) (N : Nat) : Prop where
  size : a.tmps.size = N
  at_ : ∀ t, Rz c (T t) (a.tmps.getD t undef)
theorem TSim.ext {c c' : Cx} {T : Nat → PV} {a : Act} {N : Nat} (h : TSim c T a N) (k : Ext c c') : TSim c' T a N := ⟨h.size, fun t => Rz_ext k _ _ (h.at_ t)⟩
theorem beq_ne {t d : Nat} (h : t ≠ d) : Nat.beq t d = false := by
  cases hq : Nat.beq t d with
  | false => rfl
  | true => exact absurd (Nat.eq_of_beq_eq_true hq) h
abbrev putT (T : Nat → PV) (d : Option Nat) (v : PV) : Nat → PV := fun t =>
  match d with
  | some d => match Nat.beq t d with
    | true => v
    | false => T t
  | none => T t
theorem TSim.put {c : Cx} {T : Nat → PV} {a : Act} {N : Nat} (h : TSim c T a N) (d : Option Nat) (hd : ∀ t, d = some t → t < N) {v : PV} {u : Value} (hv : Rz c v u) : TSim c (putT T d v) (a.put d u) N := by
  cases d with
  | none => exact h
  | some d =>
    refine ⟨by simp [Act.put, h.size], fun t => ?_⟩
    simp only [putT, Act.put]
    by_cases e : t = d
    · subst e
      have : t < a.tmps.size := by rw [h.size]; exact hd t rfl
      simpa [Array.getD_eq_getD_getElem?, this] using hv
    · rw [beq_ne e]
      have := h.at_ t
      simpa [Array.getD_eq_getD_getElem?, Array.getElem?_setIfInBounds_ne (Ne.symm e)] using this

/-- The tree of a value that stands in the code. -/
abbrev pvOf : Value → PV
  | .int k n => .int k n
  | .bool b => .bool b
  | .string s => .str s
  | .pointer none => .nilp
  | .slice none 0 0 => .nils
  | .nilFunc => .nilf
  | .nilIface => .nili
  | _ => .junk
theorem pvOf_rz (c : Cx) : ∀ v, Rz c (pvOf v) v := by
  intro v
  unfold pvOf
  split <;> simp [Rz]
abbrev ev (T : Nat → PV) : Operand → PV
  | .tmp t => T t
  | .const v => pvOf v
  | .func f => .fn (.func f) [] []
  | .global _ => .junk
theorem ev_rz {c : Cx} {T : Nat → PV} {a : Act} {N : Nat} (h : TSim c T a N) : ∀ x, Rz c (ev T x) (a.eval x)
  | .tmp t => h.at_ t
  | .const v => pvOf_rz c v
  | .func f => by simp [ev, Act.eval, Rz, RzL]
  | .global g => by simp [ev, Rz]
def tmpsOf (l : List Operand) : List Nat := l.filterMap fun | .tmp t => some t | _ => none
theorem ev_same {T T2 : Nat → PV} {l : List Operand} (h : ∀ t ∈ tmpsOf l, T2 t = T t) {x : Operand} (hx : x ∈ l) : ev T2 x = ev T x := by
  cases x with
  | tmp t => exact h t (List.mem_filterMap.2 ⟨_, hx, rfl⟩)
  | _ => rfl
def looks (o : Oper) : List Nat := tmpsOf o.op.operands.toList

def over (H H' : Nat → Option Blk') (W : List Nat) : Nat → Option Blk' := fun i => if W.contains i then H' i else H i
/-- An operation that is carried out where T tells the slots and H the own blocks leaves v, and the own blocks as H' tells; R, W: the own blocks on which that hangs, and those that it turns.
In a local form: it holds wherever just these, and the slots that it looks at, are as told. -/
structure OpOk (P : Program) (N : Nat) (o : Oper) (T : Nat → PV) (H : Nat → Option Blk') (n : Nat) (v : PV) (H' : Nat → Option Blk') (n' : Nat) (R W : List Nat) : Prop where
  le : n ≤ n'
  frame : ∀ i, i ∉ W → H' i = H i
  new : ∀ i, n ≤ i → i < n' → i ∈ W
  dst : ∀ d, o.dst = some d → d < N
  sem : ∀ (c : Cx) (a : Act) (T2 : Nat → PV), HSim c → TSim c T2 a N → (∀ t ∈ looks o, T2 t = T t) → (∀ i, i ∈ R ∨ i ∈ W → c.H i = H i) → (∀ i, n ≤ i → i < n' → ¬ c.B i) →
    ∀ (K : Act → World → Prop) (Q : Exit → Act → World → Prop),
      (∀ c' u, Ext c c' → HSim c' → (∀ i, c'.B i ↔ (c.B i ∨ (n ≤ i ∧ i < n'))) → c'.H = over c.H H' W → Rz c' v u → K (a.put o.dst u) c'.w) → o.wp P a c.w K Q

theorem over_self (H : Nat → Option Blk') (W : List Nat) : over H H W = H := by funext i; simp [over]
theorem over_nil (H H' : Nat → Option Blk') : over H H' [] = H := by funext i; simp [over]
/-- An operation that yields a value and does nothing else. -/
theorem OpOk.quiet {P : Program} {N : Nat} {o : Oper} {T : Nat → PV} {H : Nat → Option Blk'} {n : Nat} {v : PV} (R : List Nat) (hd : ∀ d, o.dst = some d → d < N)
    (h : ∀ (c : Cx) (a : Act) (T2 : Nat → PV), HSim c → TSim c T2 a N → (∀ t ∈ looks o, T2 t = T t) → (∀ i, i ∈ R → c.H i = H i) → ∃ u, (execOp a.eval o).run P c.w = .ok (.value u) c.w ∧ Rz c v u) :
    OpOk P N o T H n v H n R [] := by
  refine ⟨Nat.le_refl _, fun _ _ => rfl, fun i h1 h2 => by omega, hd, fun c a T2 hs ht hT hH _ K Q hK => ?_⟩
  obtain ⟨u, hr, hu⟩ := h c a T2 hs ht hT (fun i hi => hH i (.inl hi))
  unfold Oper.wp
  rw [hr]
  exact hK c u (Ext.refl c) hs (fun i => ⟨.inl, fun h => h.elim id fun h => by omega⟩) (over_nil _ _).symm hu
end Go.Proofs.Ythnjhhohfhnhgaa
