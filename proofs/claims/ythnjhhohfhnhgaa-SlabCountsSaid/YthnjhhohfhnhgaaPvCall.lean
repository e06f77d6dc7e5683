/- The logic of pure values: what a call is handed, what it hands back. -/
import Derived.Test.YthnjhhohfhnhgaaPvCtl
namespace Go.Proofs.Ythnjhhohfhnhgaa
open Go Go.RowKit

/-- y tells the value of x without own blocks: those in vis stand in their place. -/
def Snap (H : Nat → Option Blk') (vis : List Nat) (x y : PV) : Prop :=
  ∀ (c : Cx) (v : Value) (V' : Nat → Nat → Prop), HSim c → (∀ i ∈ vis, c.H i = H i) → (∀ k j, ¬ c.av k j → ¬ V' k j) →
    (∀ i ∈ vis, ∀ b, c.H i = some b → ∀ j, j < b.cells.length → ¬ V' (c.φ i).1 ((c.φ i).2 + j)) → Rz c x v → Rz (cl c.w V') y v
def SnapL (H : Nat → Option Blk') (vis : List Nat) (xs ys : List PV) : Prop := xs.length = ys.length ∧ ∀ (i : Nat) (x : PV), xs[i]? = some x → ∃ y, ys[i]? = some y ∧ Snap H vis x y

theorem RzL_iff {c : Cx} : ∀ (xs : List PV) (vs : List Value), RzL c xs vs ↔ vs.length = xs.length ∧ ∀ (i : Nat) (x : PV), xs[i]? = some x → ∃ v, vs[i]? = some v ∧ Rz c x v
  | [], vs => by
    simp only [RzL]
    constructor
    · rintro rfl; exact ⟨rfl, by simp⟩
    · rintro ⟨h, _⟩; exact List.eq_nil_of_length_eq_zero (by simpa using h)
  | x :: xs, vs => by
    simp only [RzL]
    constructor
    · rintro ⟨u, us, rfl, h1, h2⟩
      obtain ⟨h3, h4⟩ := (RzL_iff xs us).1 h2
      refine ⟨by simp [h3], fun i y hy => ?_⟩
      cases i with
      | zero => simp at hy; subst hy; exact ⟨u, rfl, h1⟩
      | succ i => simpa using h4 i y (by simpa using hy)
    · rintro ⟨h1, h2⟩
      cases vs with
      | nil => simp at h1
      | cons u us =>
        obtain ⟨v, h3, h4⟩ := h2 0 x rfl
        simp at h3; subst h3
        exact ⟨u, us, rfl, h4, (RzL_iff xs us).2 ⟨by simpa using h1, fun i y hy => by simpa using h2 (i + 1) y (by simpa using hy)⟩⟩
theorem RzAt_iff {c : Cx} : ∀ (xs : List PV) (k o : Nat), RzAt c xs k o ↔ ∀ (i : Nat) (x : PV), xs[i]? = some x → ∃ u, c.w.cell? ⟨k, o + i, none⟩ = some u ∧ ¬ c.av k (o + i) ∧ Rz c x u
  | [], k, o => by simp [RzAt]
  | x :: xs, k, o => by
    simp only [RzAt]
    rw [RzAt_iff xs k (o + 1)]
    constructor
    · rintro ⟨h1, h2⟩ i y hy
      cases i with
      | zero => simp at hy; subst hy; simpa using h1
      | succ i =>
        have := h2 i y (by simpa using hy)
        rwa [show o + 1 + i = o + (i + 1) by omega] at this
    · intro h
      refine ⟨by simpa using h 0 x rfl, fun i y hy => ?_⟩
      have := h (i + 1) y (by simpa using hy)
      rwa [show o + (i + 1) = o + 1 + i by omega] at this

section
variable {H : Nat → Option Blk'} {vis : List Nat}
theorem SnapL.rzl {xs ys : List PV} (h : SnapL H vis xs ys) {c : Cx} {V' : Nat → Nat → Prop} (hs : HSim c) (h1 : ∀ i ∈ vis, c.H i = H i) (h2 : ∀ k j, ¬ c.av k j → ¬ V' k j)
    (h3 : ∀ i ∈ vis, ∀ b, c.H i = some b → ∀ j, j < b.cells.length → ¬ V' (c.φ i).1 ((c.φ i).2 + j)) {vs : List Value} (hv : RzL c xs vs) : RzL (cl c.w V') ys vs := by
  rw [RzL_iff] at hv ⊢
  refine ⟨hv.1.trans h.1, fun i y hy => ?_⟩
  have hi : i < xs.length := by rw [h.1]; exact (List.getElem?_eq_some_iff.1 hy).1
  obtain ⟨y', e1, e2⟩ := h.2 i xs[i] (List.getElem?_eq_getElem hi)
  rw [hy] at e1; injection e1 with e1; subst e1
  obtain ⟨v, e3, e4⟩ := hv.2 i xs[i] (List.getElem?_eq_getElem hi)
  exact ⟨v, e3, e2 c v V' hs h1 h2 h3 e4⟩
theorem SnapL.rzat {xs ys : List PV} (h : SnapL H vis xs ys) {c : Cx} {V' : Nat → Nat → Prop} (hs : HSim c) (h1 : ∀ i ∈ vis, c.H i = H i) (h2 : ∀ k j, ¬ c.av k j → ¬ V' k j)
    (h3 : ∀ i ∈ vis, ∀ b, c.H i = some b → ∀ j, j < b.cells.length → ¬ V' (c.φ i).1 ((c.φ i).2 + j)) {k o : Nat} (hv : RzAt c xs k o) : RzAt (cl c.w V') ys k o := by
  rw [RzAt_iff] at hv ⊢
  intro i y hy
  have hi : i < xs.length := by rw [h.1]; exact (List.getElem?_eq_some_iff.1 hy).1
  obtain ⟨y', e1, e2⟩ := h.2 i xs[i] (List.getElem?_eq_getElem hi)
  rw [hy] at e1; injection e1 with e1; subst e1
  obtain ⟨v, e3, e4, e5⟩ := hv i xs[i] (List.getElem?_eq_getElem hi)
  refine ⟨v, e3, ?_, e2 c v V' hs h1 h2 h3 e5⟩
  rintro (ha | ⟨_, _, hb, _⟩)
  · exact h2 _ _ e4 ha
  · cases hb
theorem SnapL.nil : SnapL H vis [] [] := ⟨rfl, by simp⟩
theorem SnapL.cons {x y : PV} {xs ys : List PV} (h : Snap H vis x y) (hl : SnapL H vis xs ys) : SnapL H vis (x :: xs) (y :: ys) :=
  ⟨by simp [hl.1], fun i z hz => by
    cases i with
    | zero => simp at hz; subst hz; exact ⟨y, rfl, h⟩
    | succ i => simpa using hl.2 i z (by simpa using hz)⟩
theorem SnapL.map {α : Type} {f g : α → PV} (h : ∀ a, Snap H vis (f a) (g a)) (l : List α) : SnapL H vis (l.map f) (l.map g) :=
  ⟨by simp, fun i z hz => by
    rw [List.getElem?_map] at hz ⊢
    obtain ⟨a, h1, rfl⟩ := Option.map_eq_some_iff.1 hz
    exact ⟨g a, by rw [h1]; rfl, h a⟩⟩
theorem SnapL.append {xs ys xs' ys' : List PV} (h : SnapL H vis xs ys) (h' : SnapL H vis xs' ys') : SnapL H vis (xs ++ xs') (ys ++ ys') :=
  ⟨by simp [h.1, h'.1], fun i z hz => by
    rcases Nat.lt_or_ge i xs.length with hi | hi
    · rw [List.getElem?_append_left hi] at hz
      rw [List.getElem?_append_left (h.1 ▸ hi)]
      exact h.2 i z hz
    · rw [List.getElem?_append_right hi] at hz
      rw [List.getElem?_append_right (h.1 ▸ hi), ← h.1]
      exact h'.2 _ z hz⟩
theorem snap_ro {f : Bool} {n : Nat} {xs ys : List PV} (h : SnapL H vis xs ys) : Snap H vis (.ro f n xs) (.ro f n ys) := by
  rintro c v V' hs h1 h2 h3 ⟨A, cap, e, e1, e2, e3, e4⟩
  refine ⟨A, cap, e, e1, e2, e3, ?_⟩
  rcases e4 with rfl | ⟨k, o, ea, e4⟩
  · exact .inl (List.eq_nil_of_length_eq_zero h.1.symm)
  · exact .inr ⟨k, o, ea, h.rzat hs h1 h2 h3 e4⟩
theorem snap_rp {xs ys : List PV} (h : SnapL H vis xs ys) : Snap H vis (.rp xs) (.rp ys) := by
  rintro c v V' hs h1 h2 h3 ⟨a, e, e1, e4⟩
  exact ⟨a, e, e1, h.rzat hs h1 h2 h3 e4⟩
theorem snap_agg {xs ys : List PV} (h : SnapL H vis xs ys) : Snap H vis (.agg xs) (.agg ys) := by
  rintro c v V' hs h1 h2 h3 ⟨cs, e, e4⟩
  exact ⟨cs, e, h.rzl hs h1 h2 h3 e4⟩
theorem snap_tup {xs ys : List PV} (h : SnapL H vis xs ys) : Snap H vis (.tup xs) (.tup ys) := by
  rintro c v V' hs h1 h2 h3 ⟨cs, e, e4⟩
  exact ⟨cs, e, h.rzl hs h1 h2 h3 e4⟩
theorem snap_fn {f : Fn} {xs ys xs' ys' : List PV} (h : SnapL H vis xs ys) (h' : SnapL H vis xs' ys') : Snap H vis (.fn f xs xs') (.fn f ys ys') := by
  rintro c v V' hs h1 h2 h3 ⟨as, bs, e, e4, e5⟩
  exact ⟨as, bs, e, h.rzl hs h1 h2 h3 e4, h'.rzl hs h1 h2 h3 e5⟩
theorem own_at' {c : Cx} (hs : HSim c) {i : Nat} {b : Blk'} (hb : c.H i = some b) (he : 0 < b.es) {j : Nat} {x : PV} (hx : b.cells[j]? = some x) : ∃ u, c.w.cell? ⟨(c.φ i).1, (c.φ i).2 + j, none⟩ = some u ∧ Rz c x u := by
  obtain ⟨cs, ty, h1, _, h3⟩ := (hs.blk i b hb).row he
  obtain ⟨u, h4, h5⟩ := h3 j x hx
  exact ⟨u, by simp [World.cell?, h1, h4], h5⟩
theorem snap_os {b g off n : Nat} {blk : Blk'} {ys : List PV} (hv : b ∈ vis) (hb : H b = some blk) (hg : g = blk.gen) (hn : off + n * blk.es ≤ blk.cells.length)
    (h : SnapL H vis ((blk.cells.drop off).take (n * blk.es)) ys) : Snap H vis (.os b g off n) (.ro false n ys) := by
  rintro c v V' hs h1 h2 h3 ⟨_, hB, hx⟩
  have hcb : c.H b = some blk := (h1 b hv).trans hb
  obtain ⟨hes, a, cap, e, e1, e2, e3⟩ := (hx blk hcb).2 hg
  refine ⟨some a, cap, e, e1, by simp, (by rintro ⟨⟩), ?_⟩
  rcases e2 with e2 | e2
  · subst e2
    obtain rfl : n = 0 := by omega
    exact .inl (List.eq_nil_of_length_eq_zero (by rw [← h.1]; simp))
  · refine .inr ⟨(c.φ b).1, (c.φ b).2 + off, by rw [e2], ?_⟩
    rw [RzAt_iff]
    intro i y hy
    have hi : i < ((blk.cells.drop off).take (n * blk.es)).length := by rw [h.1]; exact (List.getElem?_eq_some_iff.1 hy).1
    have hi2 : i < n * blk.es ∧ off + i < blk.cells.length := by simp at hi; omega
    obtain ⟨y', e4, e5⟩ := h.2 i _ (List.getElem?_eq_getElem hi)
    rw [hy] at e4; injection e4 with e4; subst e4
    have hcell : blk.cells[off + i]? = some ((blk.cells.drop off).take (n * blk.es))[i] := by
      rw [← List.getElem?_eq_getElem hi, List.getElem?_take, if_pos hi2.1, List.getElem?_drop]
    obtain ⟨u, h4, h5⟩ := own_at' hs hcb hes hcell
    refine ⟨u, by rw [Nat.add_assoc]; exact h4, ?_, e5 c u V' hs h1 h2 h3 h5⟩
    rintro (hh | ⟨_, _, hh, _⟩)
    · exact h3 b hv blk hcb (off + i) hi2.2 (by rwa [← Nat.add_assoc])
    · cases hh
theorem snap_op {b g off : Nat} {blk : Blk'} {ys : List PV} (hv : b ∈ vis) (hb : H b = some blk) (hg : g = blk.gen)
    (h : SnapL H vis (blk.cells.drop off) ys) : Snap H vis (.op b g off) (.rp ys) := by
  rintro c v V' hs h1 h2 h3 ⟨_, hB, hx⟩
  have hcb : c.H b = some blk := (h1 b hv).trans hb
  obtain ⟨hes, e⟩ := (hx blk hcb).2 hg
  refine ⟨_, e, rfl, ?_⟩
  rw [RzAt_iff]
  intro i y hy
  have hi : i < (blk.cells.drop off).length := by rw [h.1]; exact (List.getElem?_eq_some_iff.1 hy).1
  have hi2 : off + i < blk.cells.length := by simp at hi; omega
  obtain ⟨y', e4, e5⟩ := h.2 i _ (List.getElem?_eq_getElem hi)
  rw [hy] at e4; injection e4 with e4; subst e4
  have hcell : blk.cells[off + i]? = some (blk.cells.drop off)[i] := by rw [← List.getElem?_eq_getElem hi, List.getElem?_drop]
  obtain ⟨u, h4, h5⟩ := own_at' hs hcb hes hcell
  refine ⟨u, by rw [Nat.add_assoc]; exact h4, ?_, e5 c u V' hs h1 h2 h3 h5⟩
  rintro (hh | ⟨_, _, hh, _⟩)
  · exact h3 b hv blk hcb (off + i) hi2 (by rwa [← Nat.add_assoc])
  · cases hh
end

/-- No own block stands in it. -/
class Cl (x : PV) : Prop where
  out : ∀ H vis, Snap H vis x x
class ClL (xs : List PV) : Prop where
  out : ∀ H vis, SnapL H vis xs xs
instance : Cl .junk := ⟨fun _ _ _ _ _ _ _ _ _ h => h⟩
instance (k : IntKind) (n : Int) : Cl (.int k n) := ⟨fun _ _ _ _ _ _ _ _ _ h => h⟩
instance (b : Bool) : Cl (.bool b) := ⟨fun _ _ _ _ _ _ _ _ _ h => h⟩
instance (s : ByteArray) : Cl (.str s) := ⟨fun _ _ _ _ _ _ _ _ _ h => h⟩
instance : Cl .nilp := ⟨fun _ _ _ _ _ _ _ _ _ h => h⟩
instance : Cl .nils := ⟨fun _ _ _ _ _ _ _ _ _ h => h⟩
instance : Cl .nilf := ⟨fun _ _ _ _ _ _ _ _ _ h => h⟩
instance : Cl .nili := ⟨fun _ _ _ _ _ _ _ _ _ h => h⟩
instance : ClL [] := ⟨fun _ _ => .nil⟩
instance (x : PV) (xs : List PV) [h : Cl x] [hl : ClL xs] : ClL (x :: xs) := ⟨fun H vis => .cons (h.out H vis) (hl.out H vis)⟩
instance (xs ys : List PV) [h : ClL xs] [h' : ClL ys] : ClL (xs ++ ys) := ⟨fun H vis => (h.out H vis).append (h'.out H vis)⟩
instance {α : Type} (f : α → PV) (l : List α) [h : ∀ a, Cl (f a)] : ClL (l.map f) := ⟨fun H vis => .map (fun a => (h a).out H vis) l⟩
instance (f : Bool) (n : Nat) (xs : List PV) [h : ClL xs] : Cl (.ro f n xs) := ⟨fun H vis => snap_ro (h.out H vis)⟩
instance (xs : List PV) [h : ClL xs] : Cl (.rp xs) := ⟨fun H vis => snap_rp (h.out H vis)⟩
instance (xs : List PV) [h : ClL xs] : Cl (.agg xs) := ⟨fun H vis => snap_agg (h.out H vis)⟩
instance (xs : List PV) [h : ClL xs] : Cl (.tup xs) := ⟨fun H vis => snap_tup (h.out H vis)⟩
instance (f : Fn) (xs ys : List PV) [h : ClL xs] [h' : ClL ys] : Cl (.fn f xs ys) := ⟨fun H vis => snap_fn (h.out H vis) (h'.out H vis)⟩

theorem cl_hsim {w : World} {V : Nat → Nat → Prop} (hV : ∀ k j, V k j → k < w.heap.size) : HSim (cl w V) :=
  ⟨fun _ _ h => (nomatch h), fun _ _ h => (nomatch h), fun _ _ _ _ h _ => (nomatch h), hV, fun _ _ h => (nomatch h)⟩

/-! ### The marks are taken off when the function returns -/
structure Shut (ds : List Nat) (y y' : Cx) : Prop where
  H : y'.H = y.H
  B : y'.B = y.B
  φ : y'.φ = y.φ
  V : y'.V = y.V
  os : y'.w.os = y.w.os
  tape : y'.w.tape = y.w.tape
  output : y'.w.output = y.w.output
  size : y'.w.heap.size = y.w.heap.size
  same : ∀ k, k ∉ ds → y'.w.heap[k]? = y.w.heap[k]?
  was : ∀ D ∈ ds, ∃ l, y.w.heap[D]? = some (.deferred l)
theorem Shut.av {ds : List Nat} {y y' : Cx} (h : Shut ds y y') (k j : Nat) : y'.av k j ↔ y.av k j := by
  unfold Cx.av Cx.own
  rw [h.V, h.H, h.φ]
theorem Shut.kept {ds : List Nat} {y y' : Cx} (h : Shut ds y y') : Kept y y' := by
  have hno : ∀ k j, k ∈ ds → y.w.cell? ⟨k, j, none⟩ = none := fun k j hk => by
    obtain ⟨l, e⟩ := h.was k hk
    simp [World.cell?, e]
  refine ⟨fun k j u hc ha => ?_, fun k es cl hm ha => ?_, fun i hi => by rw [h.B]; exact hi, fun i b' hB hb => ⟨b', by rw [← h.H]; exact hb, Nat.le_refl _, fun _ => ⟨by rw [h.φ], rfl, ?_⟩⟩⟩
  · by_cases hk : k ∈ ds
    · rw [hno k j hk] at hc; cases hc
    · exact ⟨by simpa only [World.cell?, h.same k hk] using hc, fun h1 => ha ((h.av k j).1 h1)⟩
  · by_cases hk : k ∈ ds
    · obtain ⟨l, e⟩ := h.was k hk
      rw [e] at hm; cases hm
    · exact ⟨(h.same k hk).trans hm, fun j h1 => ha j ((h.av k j).1 h1)⟩
  · by_cases hk : (y.φ i).1 ∈ ds
    · obtain ⟨l, e⟩ := h.was _ hk
      simp [msize, e]
    · simp [msize, h.same _ hk]
theorem Shut.hsim {ds : List Nat} {y y' : Cx} (h : Shut ds y y') (hs : HSim y) : HSim y' := by
  refine ⟨fun i b hb => ?_, fun i b hb => ?_, fun i j b b' h1 h2 e => ?_, fun k j hV => ?_, fun i b hb j hj hV => ?_⟩
  · rw [h.B]; exact hs.born i b (by rw [← h.H]; exact hb)
  · have hb' : y.H i = some b := by rw [← h.H]; exact hb
    have hl := hs.blk i b hb'
    have hn : (y.φ i).1 ∉ ds := fun hD => by
      obtain ⟨l, e⟩ := h.was _ hD
      exact no_own hs e i b hb' rfl
    rw [h.φ, h.same _ hn]
    exact hl.kept h.kept
  · rw [h.φ] at e
    exact hs.inj i j b b' (by rw [← h.H]; exact h1) (by rw [← h.H]; exact h2) e
  · rw [h.size]; rw [h.V] at hV; exact hs.Vlt k j hV
  · rw [h.φ] at hj hV; rw [h.V] at hV
    exact hs.Vown i b (by rw [← h.H]; exact hb) j hj hV
theorem Shut.ext {ds : List Nat} {c y y' : Cx} (h : Shut ds y y') (he : Ext c y) (hc : HSim c) (hd : ∀ D ∈ ds, c.w.heap.size ≤ D) : Ext c y' := by
  have hn : ∀ k, k < c.w.heap.size → k ∉ ds := fun k hk hD => by have := hd k hD; omega
  refine ⟨h.os.trans he.os, h.tape.trans he.tape, h.output.trans he.output, by rw [h.size]; exact he.size, h.V.trans he.V, fun i hi => by rw [h.B]; exact he.born i hi, fun k hk ho => (h.same k (hn k hk)).trans (he.other k hk ho), fun i b hb j hj => ?_, fun i x hx => ?_, fun i b' hB hb => ?_⟩
  · rw [← he.prot i b hb j hj]
    simp only [World.cell?, h.same _ (hn _ (hc.lt hb))]
  · rw [h.φ]; exact he.mine i x (by rw [← h.H]; exact hx)
  · obtain ⟨b, h1, h2, h3⟩ := he.gen i b' hB (by rw [← h.H]; exact hb)
    refine ⟨b, h1, h2, fun e => ?_⟩
    obtain ⟨g1, g2, g3⟩ := h3 e
    rw [h.φ]
    refine ⟨g1, g2, Nat.le_trans g3 ?_⟩
    obtain ⟨_, e1, _, e3⟩ := h.kept.gen i b' (he.born i hB) hb
    have e4 : y.H i = some b' := by rw [← h.H]; exact hb
    rw [e4] at e1; injection e1 with e1; subst e1
    have := (e3 rfl).2.2
    rw [g1] at this
    exact this
theorem leave_marks {P : Program} {F : Fence} {m : Nat} {R : Ending → World → Prop} : ∀ (ds : List Nat) (y : Cx), ds.Nodup → (∀ D ∈ ds, y.w.heap[D]? = some (.deferred (some []))) →
    ∃ y', Shut ds y y' ∧ ∀ fn tmps, (∃ v, (results fn tmps).run P y'.w = .ok v y'.w ∧ R (.returned v) y'.w) → LeavesInM F m P fn tmps R (ds.map mark) .returning y.w
  | [], y, _, _ => ⟨y, ⟨rfl, rfl, rfl, rfl, rfl, rfl, rfl, rfl, fun _ _ => rfl, fun _ h => by cases h⟩, fun fn tmps h => h⟩
  | D :: ds, y, hn, hD => by
    rw [List.nodup_cons] at hn
    have h0 := hD D (by simp)
    obtain ⟨y', hs, hl⟩ := leave_marks (P := P) (F := F) (m := m) (R := R) ds { y with w := y.w.putObj D (.deferred none) } hn.2 (fun D' h' => (World.putObj_heap_other (by intro e; subst e; exact hn.1 h')).trans (hD D' (by simp [h'])))
    refine ⟨y', ⟨hs.H, hs.B, hs.φ, hs.V, hs.os, hs.tape, hs.output, hs.size.trans (by simp), fun k hk => ?_, fun D' h' => ?_⟩, fun fn tmps h => ?_⟩
    · rw [List.mem_cons, not_or] at hk
      exact (hs.same k hk.2).trans (World.putObj_heap_other hk.1)
    · exact ⟨_, hD D' h'⟩
    · exact ⟨by simp, .inl ⟨D, _, rfl, run_takeDeferred h0, hl fn tmps h⟩⟩
/-- Behind a walk: the function returns what its results tell, in a context that is as the last one was. -/
theorem leave_of {P : Program} {N : Nat} {fn : Func} {R : Ending → World → Prop} {m : Nat} {c0 y : Cx} {a0 a' : Act} {t : LSt} {r : PV} (he : Ext c0 y) (hs0 : HSim c0) (hs : HSim y) (ts : TSim y t.T a' N) (hH : y.H = t.H) (hm : Marks c0 y a0 a') (h0 : a0.defers = []) (hr : ResOk P N fn t r)
    (hR : ∀ y' u, TSim y' t.T a' N → Ext c0 y' → HSim y' → y'.H = y.H → y'.B = y.B → Rz y' r u → R (.returned u) y'.w) : LeavesInM (rf none) m P fn a'.tmps R a'.defers .returning y.w := by
  obtain ⟨ds, e, hn, hd⟩ := hm
  obtain ⟨y', hsh, hl⟩ := leave_marks (P := P) (F := rf none) (m := m) (R := R) ds y hn (fun D hD => (hd D hD).2)
  rw [e, h0, List.append_nil]
  have ts' : TSim y' t.T a' N := ⟨ts.size, fun i => Rz_kept hsh.kept _ _ (ts.at_ i)⟩
  obtain ⟨u, hrun, hu⟩ := hr y' a' (hsh.hsim hs) ts' (hsh.H.trans hH)
  exact hl fn a'.tmps ⟨u, hrun, hR y' u ts' (hsh.ext he hs0 (fun D hD => (hd D hD).1)) (hsh.hsim hs) hsh.H hsh.B hu⟩

/-- **A contract out of a walk.** -/
theorem ctr_of_lwp {P : Program} {g : FuncId} {fn : Func} {c : Code} {xs : List PV} {r : PV} (N : Nat) (hf : P.funcs[g]? = some fn) (hb : fn.body = some c) (hN : fn.ntmps = N) (hx : xs.length ≤ N)
    (h : lwp none P N 0 c (fun e t => (e = .normal ∨ e = .ret) ∧ ∃ r0 vis, ResOk P N fn t r0 ∧ Snap t.H vis r0 r) ⟨args xs, fun _ => none, 0⟩) : Ctr P g xs r := by
  intro w V vs hV hxs
  obtain ⟨hlen, hget⟩ := RzL_get xs vs.toList hxs
  refine calls_rf (R := none) (m := 0) (callsIn_of_wp_marks hf hb trivial ?_)
  have hs : HSim (cl w V) := cl_hsim hV
  have ts : TSim (cl w V) (args xs) { tmps := vs ++ Array.replicate (fn.ntmps - vs.size) undef, defers := [] } N := by
    have hsz : vs.size = xs.length := by simpa using hlen
    refine ⟨by simp; omega, fun t => ?_⟩
    have := hget t
    simp only [args]
    rcases Nat.lt_or_ge t vs.size with h1 | h1
    · rw [Array.getD_eq_getD_getElem?, Array.getElem?_append_left h1]
      rw [List.getD_eq_getElem?_getD] at this
      simpa using this
    · rw [List.getD_eq_getElem?_getD, List.getElem?_eq_none (by omega)]
      simp [Rz]
  refine wpIn_mono (h 0 (cl w V) _ hs ts rfl (fun _ h => h.elim)) ?_
  rintro e a' w' ⟨t, x', ⟨he, r0, vis, hr, hsn⟩, rfl, hR⟩
  have key : LeavesInM (rf none) 0 P fn a'.tmps (fun e w' => ∃ u, e = .returned u ∧ Kp0 w w' ∧ Rz (cl w' V) r u) a'.defers .returning x'.w := by
    refine leave_of (hR.ext.full (fun _ h => h.elim) hs) hs hR.hs hR.ts hR.heap hR.defers rfl hr ?_
    intro y' u _ hE hsy hHy _ hu
    have hV' : y'.V = V := hE.V
    have hu' : Rz (cl y'.w V) r u := hsn y' u V hsy (fun i _ => by rw [hHy, hR.heap]) (fun k j h1 h2 => h1 (.inl (by rw [hV']; exact h2)))
      (fun i _ b hb' j _ h2 => hsy.Vown i b hb' ((y'.φ i).2 + j) (Nat.le_add_right _ _) (by rw [hV']; exact h2)) hu
    exact ⟨u, rfl, ⟨hE.os, hE.tape, hE.output, hE.size, fun k hk _ => hE.other k hk (fun _ _ h => nomatch h)⟩, hu'⟩
  rcases he with rfl | rfl
  · exact key
  · exact key

/-! ### The call -/
class Ent (P : Program) (g : FuncId) : Prop where
  out : ∀ args w, (callFunc g args).run P w = .ok (.enter g args) w
def freeze' (H : Nat → Option Blk') (vis : List Nat) : Nat → Option Blk' := fun i => if vis.contains i then (H i).map fun b => { b with lo := max b.lo b.cells.length } else H i

mutual
theorem Rz_open {w : World} {V' : Nat → Nat → Prop} {c : Cx} (hw : c.w = w) (h : ∀ k j, c.av k j → V' k j) : ∀ (x : PV) (v : Value), Rz (cl w V') x v → Rz c x v
  | .junk, _, _ => trivial
  | .int _ _, _, hx => hx
  | .bool _, _, hx => hx
  | .str _, _, hx => hx
  | .nilp, _, hx => hx
  | .nils, _, hx => hx
  | .nilf, _, hx => hx
  | .nili, _, hx => hx
  | .ro full n xs, v, hx => by
    obtain ⟨A, cap, e, h1, h2, h3, h4⟩ := hx
    refine ⟨A, cap, e, h1, h2, h3, ?_⟩
    rcases h4 with h4 | ⟨k, o, e1, h4⟩
    · exact .inl h4
    · exact .inr ⟨k, o, e1, RzAt_open hw h xs _ _ h4⟩
  | .rp xs, v, hx => by
    obtain ⟨a, e, h1, h4⟩ := hx
    exact ⟨a, e, h1, RzAt_open hw h xs _ _ h4⟩
  | .os b g off n, v, hx => hx.2.1.elim
  | .op b g off, v, hx => hx.2.1.elim
  | .mp b g, v, hx => hx.2.1.elim
  | .rm xs, v, hx => by
    obtain ⟨k, es, cl, e, h1, h2, hm, h3⟩ := hx
    exact ⟨k, es, cl, e, by rw [hw]; exact h1, fun j h4 => h2 j (.inl (h _ _ h4)), hm, RzL_open hw h xs _ h3⟩
  | .agg xs, v, hx => by
    obtain ⟨cs, e, hl⟩ := hx
    exact ⟨cs, e, RzL_open hw h xs _ hl⟩
  | .tup xs, v, hx => by
    obtain ⟨cs, e, hl⟩ := hx
    exact ⟨cs, e, RzL_open hw h xs _ hl⟩
  | .fn f fs xs, v, hx => by
    obtain ⟨as, bs, e, h1, h2⟩ := hx
    exact ⟨as, bs, e, RzL_open hw h fs _ h1, RzL_open hw h xs _ h2⟩
theorem RzAt_open {w : World} {V' : Nat → Nat → Prop} {c : Cx} (hw : c.w = w) (h : ∀ k j, c.av k j → V' k j) : ∀ (xs : List PV) (k o : Nat), RzAt (cl w V') xs k o → RzAt c xs k o
  | [], _, _, _ => trivial
  | x :: xs, k, o, hx => by
    obtain ⟨⟨u, hc, ha, hu⟩, hr⟩ := hx
    exact ⟨⟨u, by rw [hw]; exact hc, fun h1 => ha (.inl (h _ _ h1)), Rz_open hw h x u hu⟩, RzAt_open hw h xs k (o + 1) hr⟩
theorem RzL_open {w : World} {V' : Nat → Nat → Prop} {c : Cx} (hw : c.w = w) (h : ∀ k j, c.av k j → V' k j) : ∀ (xs : List PV) (vs : List Value), RzL (cl w V') xs vs → RzL c xs vs
  | [], _, hx => hx
  | x :: xs, vs, hx => by
    obtain ⟨u, us, e, hu, hr⟩ := hx
    exact ⟨u, us, e, Rz_open hw h x u hu, RzL_open hw h xs us hr⟩
end

/-- Memory is made, and nothing that stood is turned. -/
theorem ext_kp {c : Cx} {w' : World} (hk : Kp0 c.w w') (hs : HSim c) : Ext c { c with w := w' } ∧ HSim { c with w := w' } := by
  have hblk : ∀ k, k < c.w.heap.size → w'.heap[k]? = c.w.heap[k]? := fun k hk' => hk.block k hk' id
  have he : Ext c { c with w := w' } := ⟨hk.os, hk.tape, hk.output, hk.size, rfl, fun _ h => h, fun k hk' _ => hblk k hk',
    fun i b hb j _ => by simp only [World.cell?, hblk _ (hs.lt hb)],
    fun i x hx => .inl ⟨x, hx, rfl, Nat.le_refl _⟩, fun i b' _ hb => ⟨b', hb, Nat.le_refl _, fun _ => ⟨rfl, rfl, by simp only [msize, hblk _ (hs.lt hb)]; exact Nat.le_refl _⟩⟩⟩
  refine ⟨he, hs.born, fun i b hb => ?_, hs.inj, fun k j h => Nat.lt_of_lt_of_le (hs.Vlt k j h) hk.size, hs.Vown⟩
  have h1 := (hs.blk i b hb).ext he
  rw [← hblk _ (hs.lt hb)] at h1
  exact h1

/-- Blocks are never written again as far as they now reach. -/
theorem ext_freeze {c : Cx} (hs : HSim c) (vis : List Nat) {H : Nat → Option Blk'} (hH : ∀ i ∈ vis, c.H i = H i) : Ext c { c with H := over c.H (freeze' H vis) vis } ∧ HSim { c with H := over c.H (freeze' H vis) vis } ∧
    (∀ k j, c.av k j ∨ ¬ ({ c with H := over c.H (freeze' H vis) vis } : Cx).av k j) ∧
    (∀ i ∈ vis, ∀ b, c.H i = some b → ∀ j, j < b.cells.length → ¬ ({ c with H := over c.H (freeze' H vis) vis } : Cx).av (c.φ i).1 ((c.φ i).2 + j)) := by
  have key : ∀ i x, over c.H (freeze' H vis) vis i = some x → ∃ y, c.H i = some y ∧ y.gen = x.gen ∧ y.es = x.es ∧ y.lo ≤ x.lo ∧ y.cells = x.cells ∧ (i ∈ vis → y.cells.length ≤ x.lo) := by
    intro i x hx
    simp only [over] at hx
    split at hx
    · rename_i h
      have h' : i ∈ vis := by simpa using h
      simp only [freeze', h, if_true] at hx
      obtain ⟨y, h1, rfl⟩ := Option.map_eq_some_iff.1 hx
      exact ⟨y, by rw [hH i h']; exact h1, rfl, rfl, Nat.le_max_left _ _, rfl, fun _ => Nat.le_max_right _ _⟩
    · rename_i h
      exact ⟨x, hx, rfl, rfl, Nat.le_refl _, rfl, fun h' => absurd h' (by simpa using h)⟩
  have he : Ext c { c with H := over c.H (freeze' H vis) vis } := ⟨rfl, rfl, rfl, Nat.le_refl _, rfl, fun _ h => h, fun _ _ _ => rfl, fun _ _ _ _ _ => rfl,
    fun i x hx => by
      obtain ⟨y, h1, _, _, h4, _⟩ := key i x hx
      exact .inl ⟨y, h1, rfl, by show (c.φ i).2 + y.lo ≤ (c.φ i).2 + x.lo; omega⟩,
    fun i x _ hx => by
      obtain ⟨y, h1, h2, h3, _⟩ := key i x hx
      exact ⟨y, h1, by omega, fun _ => ⟨rfl, h3.symm, Nat.le_refl _⟩⟩⟩
  refine ⟨he, ⟨fun i x hx => ?_, fun i x hx => ?_, fun i j x y hx hy => ?_, hs.Vlt, fun i x hx => ?_⟩, fun k j => ?_, ?_⟩
  · obtain ⟨y, h1, _⟩ := key i x hx
    exact hs.born i y h1
  · obtain ⟨y, h1, _, hes, _, h5, _⟩ := key i x hx
    have h6 := (hs.blk i y h1).ext he
    unfold Lies at h6 ⊢
    rw [h5] at h6
    rwa [hes] at h6
  · obtain ⟨x', h1, _⟩ := key i x hx
    obtain ⟨y', h2, _⟩ := key j y hy
    exact hs.inj i j x' y' h1 h2
  · obtain ⟨y, h1, _⟩ := key i x hx
    exact hs.Vown i y h1
  · by_cases h : ({ c with H := over c.H (freeze' H vis) vis } : Cx).av k j
    · refine .inl ?_
      rcases h with h | ⟨i, x, hx, h1, h2⟩
      · exact .inl h
      · obtain ⟨y, h3, _, _, h4, _⟩ := key i x hx
        exact .inr ⟨i, y, h3, h1, by show (c.φ i).2 + y.lo ≤ j; have : (c.φ i).2 + x.lo ≤ j := h2; omega⟩
    · exact .inr h
  · rintro i hi b hb j hj (h | ⟨i', x, hx, h1, h2⟩)
    · exact hs.Vown i b hb _ (by omega) h
    · obtain ⟨y, h3, _, _, _, _, h5⟩ := key i' x hx
      obtain rfl := hs.inj i' i y b h3 hb h1
      rw [hb] at h3; injection h3 with h3; subst h3
      have h6 := h5 hi
      have : (c.φ i').2 + x.lo ≤ (c.φ i').2 + j := h2
      omega

theorem RzL_append {c : Cx} {xs ys : List PV} {vs us : List Value} (h : RzL c xs vs) (h' : RzL c ys us) : RzL c (xs ++ ys) (vs ++ us) := by
  induction xs generalizing vs with
  | nil => simp only [RzL] at h; subst h; exact h'
  | cons x xs ih =>
    obtain ⟨u, us', rfl, h1, h2⟩ := h
    exact ⟨u, us' ++ us, rfl, h1, ih h2⟩
theorem RzL_map {c : Cx} {T : Nat → PV} {a : Act} {N : Nat} (h : TSim c T a N) : ∀ l : List Operand, RzL c (l.map (ev T)) (l.map a.eval)
  | [] => rfl
  | x :: l => ⟨_, _, rfl, ev_rz h x, RzL_map h l⟩

theorem call_run {P : Program} {g : FuncId} [hg : Ent P g] {o : Oper} {f : Operand} {as : Array Operand} {ts : Array TypeId} (ho : o.op = .call { callee := .value f, args := as, argTypes := ts }) {a : Act} {w : World} {fs cs : Array Value}
    (hf : a.eval f = .func (.func g) fs cs) : (execOp a.eval o).run P w = .ok (.enter g (fs ++ as.map a.eval ++ cs)) w := by
  have := hg.out (fs ++ as.map a.eval ++ cs) w
  rw [Array.append_assoc] at this
  simp [execOp, ho, resolve, Deferred.ofValue, hf, invoke, this]

/-- A call by contract. What is handed over and may come back in the result is never written again. -/
theorem OpOk.call {P : Program} {N : Nat} {o : Oper} {T : Nat → PV} {H : Nat → Option Blk'} {n : Nat} (vis : List Nat) {g : FuncId} [Ent P g] {f : Operand} {as : Array Operand} {ts : Array TypeId} {fs cs xs : List PV} {r : PV}
    (ho : o.op = .call { callee := .value f, args := as, argTypes := ts }) (hd : ∀ d, o.dst = some d → d < N) (hf : ev T f = .fn (.func g) fs cs)
    (hx : SnapL H vis (fs ++ as.toList.map (ev T) ++ cs) xs) (hc : Ctr P g xs r) : OpOk P N o T H n r (freeze' H vis) n [] vis := by
  refine ⟨Nat.le_refl _, fun i hi => ?_, fun i h1 h2 => by omega, hd, fun c a T2 hs ht hT hH _ K Q hK => ?_⟩
  · simp only [freeze']
    rw [if_neg (by simpa using hi)]
  · have hl : looks o = tmpsOf (f :: as.toList) := by
      unfold looks
      rw [ho]
      simp [Op.operands, Call.operands]
    rw [hl] at hT
    have hf2 : ev T2 f = .fn (.func g) fs cs := (ev_same hT (by simp)).trans hf
    have hm2 : as.toList.map (ev T2) = as.toList.map (ev T) := List.map_congr_left fun x hx => ev_same hT (by simp [hx])
    have hv := ev_rz ht f
    rw [hf2] at hv
    obtain ⟨fv, cv, hfe, hfs, hcs⟩ := hv
    have hall : RzL c (fs ++ as.toList.map (ev T) ++ cs) (fv ++ as.map a.eval ++ cv).toList := by
      have h1 := RzL_map ht as.toList
      rw [hm2] at h1
      have := RzL_append (RzL_append hfs h1) hcs
      simpa using this
    have hH' : ∀ i ∈ vis, c.H i = H i := fun i hi => hH i (.inr hi)
    obtain ⟨he1, hs1, hav, hvis⟩ := ext_freeze hs vis hH'
    generalize hc1 : ({ c with H := over c.H (freeze' H vis) vis } : Cx) = c1 at he1 hs1 hav hvis
    have hw1 : c1.w = c.w := by rw [← hc1]
    have hxs : RzL (cl c.w c1.av) xs (fv ++ as.map a.eval ++ cv).toList := hx.rzl hs hH' (fun k j h1 h2 => (hav k j).elim h1 fun h3 => h3 h2) (fun i hi b hb j hj => by have := hvis i hi b hb j hj; exact this) hall
    have hlt : ∀ k j, c1.av k j → k < c.w.heap.size := by
      rintro k j (h | ⟨i, b, hb, h1, _⟩)
      · have := hs1.Vlt k j h; rwa [hw1] at this
      · have := hs1.lt hb; rw [h1, hw1] at this; exact this
    unfold Oper.wp
    rw [call_run ho hfe, Oper.upon_enter]
    refine (hc c.w c1.av _ hlt hxs).mono ?_
    rintro e w' ⟨u, rfl, hk, hu⟩
    have hk1 : Kp0 c1.w w' := by rw [hw1]; exact hk
    obtain ⟨he2, hs2⟩ := ext_kp hk1 hs1
    have := hK { c1 with w := w' } u (he1.trans he2 hs) hs2 (fun i => ?_) ?_ (Rz_open rfl (fun k j h => h) _ _ hu)
    · exact this
    · rw [← hc1]
      exact ⟨.inl, fun h => h.elim id fun h => by omega⟩
    · rw [← hc1]
end Go.Proofs.Ythnjhhohfhnhgaa
