/- Words for memory: a block known whole, a slice that reads as a list, what a call leaves alone. -/
import Derived.Below
import Derived.Laws.Rows
import Derived.Deep.Draws
import Derived.Laws.OwnMore
import Derived.Deep.AppendLies
import Derived.ArgAppend
namespace Go.Proofs.Ythnjhhohfhnhgaa
open Go Go.RowKit

/-! ### What a call leaves alone -/
/-- All blocks that stood in w, but those in S, are in w' as they were. -/
structure Kp (S : Nat → Prop) (w w' : World) : Prop where
  os : w'.os = w.os
  tape : w'.tape = w.tape
  output : w'.output = w.output
  size : w.heap.size ≤ w'.heap.size
  block : ∀ k, k < w.heap.size → ¬ S k → w'.heap[k]? = w.heap[k]?
/-- Nothing at all is turned. -/
abbrev Kp0 (w w' : World) : Prop := Kp (fun _ => False) w w'
theorem Kp.refl (S : Nat → Prop) (w : World) : Kp S w w := ⟨rfl, rfl, rfl, Nat.le_refl _, fun _ _ _ => rfl⟩
theorem Kp.trans {S T : Nat → Prop} {a b c : World} (h : Kp S a b) (k : Kp T b c) (hT : ∀ i, i < a.heap.size → T i → S i) : Kp S a c :=
  ⟨k.os.trans h.os, k.tape.trans h.tape, k.output.trans h.output, Nat.le_trans h.size k.size, fun i hi hs =>
    (k.block i (Nat.lt_of_lt_of_le hi h.size) (fun ht => hs (hT i hi ht))).trans (h.block i hi hs)⟩
theorem Kp.mono {S T : Nat → Prop} {a b : World} (h : Kp S a b) (hT : ∀ i, i < a.heap.size → S i → T i) : Kp T a b :=
  ⟨h.os, h.tape, h.output, h.size, fun i hi hs => h.block i hi (fun ht => hs (hT i hi ht))⟩
theorem Kp.then0 {S : Nat → Prop} {a b c : World} (h : Kp S a b) (k : Kp0 b c) : Kp S a c := h.trans k fun _ _ hf => hf.elim
theorem Kp.below {w w' : World} (h : Kp0 w w') : Below w.heap.size w w' := ⟨h.os, h.tape, h.output, h.size, fun k hk => h.block k hk id⟩
theorem Kp.of_below {w w' : World} (h : Below w.heap.size w w') : Kp0 w w' := ⟨h.os, h.tape, h.output, h.size, fun k hk _ => h.block k hk⟩
theorem Kp.of_grown {w w' : World} {row : Option Nat} (h : w.grownBy w' row) : Kp (fun k => some k = row) w w' := ⟨h.os, h.tape, h.output, h.size, fun k hk hn => h.block k hk hn⟩
theorem Kp.alloc {S : Nat → Prop} {a w : World} (h : Kp S a w) (o : Obj) : Kp S a (w.alloc o) :=
  h.then0 ⟨rfl, rfl, rfl, by simp, fun k hk _ => Below.heap_alloc _ _ _ hk⟩
theorem Kp.past {S : Nat → Prop} {a b c : World} (h : Kp0 a b) (k : Kp S b c) (hS : ∀ i, S i → a.heap.size ≤ i) : Kp0 a c := h.trans k fun i hi e => absurd (hS i e) (by omega)
theorem Kp.drew {S : Nat → Prop} {a w : World} (h : Kp S a w) : Kp S a w.drew := ⟨h.os, h.tape, h.output, h.size, h.block⟩
theorem Kp.drewN {S : Nat → Prop} {a w : World} (h : Kp S a w) (n : Nat) : Kp S a (w.drewN n) := ⟨h.os, h.tape, h.output, h.size, h.block⟩
theorem Kp.setCell {S : Nat → Prop} {a w : World} (h : Kp S a w) {p : Addr} (hp : p.block < a.heap.size → S p.block) (u : Value) : Kp S a (w.setCell p u) :=
  h.trans (T := fun i => i = p.block) ⟨rfl, rfl, rfl, by simp [World.setCell], fun k _ hn => Below.heap_setCell _ _ _ _ hn⟩ fun i hi e => by subst e; exact hp hi

theorem Kp.redrew {S : Nat → Prop} {a w : World} (h : Kp S a w) : Kp S a.drew w := ⟨h.os, h.tape, h.output, h.size, h.block⟩
theorem Kp.undrew {S : Nat → Prop} {a w : World} (h : Kp S a.drew w) : Kp S a w := ⟨h.os, h.tape, h.output, h.size, h.block⟩

/-! ### A block known whole -/
def Blk (w : World) (g : Nat) (t : TypeId) (cs : List Value) : Prop := w.heap[g]? = some (.cells cs.toArray t (0, 0))
section
variable {w w' : World} {g : Nat} {t : TypeId} {cs : List Value}
theorem Blk.lt (h : Blk w g t cs) : g < w.heap.size := by
  rcases Nat.lt_or_ge g w.heap.size with hlt | hge
  · exact hlt
  · unfold Blk at h; rw [Array.getElem?_eq_none hge] at h; cases h
theorem Blk.cell (h : Blk w g t cs) (i : Nat) : w.cell? ⟨g, i, none⟩ = cs[i]? := by
  unfold Blk at h
  simp [World.cell?, h]
theorem Blk.cell' (h : Blk w g t cs) {i : Nat} {u : Value} (hu : cs[i]? = some u) : w.cell? ⟨g, i, none⟩ = some u := (h.cell i).trans hu
theorem Blk.frozen (h : Blk w g t cs) (i : Nat) : w.frozen? ⟨g, i, none⟩ = false := by
  unfold Blk at h
  simp [World.frozen?, h]
theorem Blk.new (w : World) (t : TypeId) (cs : List Value) : Blk (w.alloc (.cells cs.toArray t)) w.heap.size t cs := heap_alloc_new w _
theorem Blk.drew (h : Blk w g t cs) : Blk w.drew g t cs := h
theorem Blk.drewN (h : Blk w g t cs) (n : Nat) : Blk (w.drewN n) g t cs := h
theorem Blk.alloc (h : Blk w g t cs) (o : Obj) : Blk (w.alloc o) g t cs := (Below.heap_alloc w o g h.lt).trans h
theorem Blk.set (h : Blk w g t cs) (i : Nat) (u : Value) : Blk (w.setCell ⟨g, i, none⟩ u) g t (cs.set i u) := by
  unfold Blk at h ⊢
  simp [World.setCell, Array.getElem?_modify, h]
theorem Blk.far (h : Blk w g t cs) {p : Addr} (hp : g ≠ p.block) (u : Value) : Blk (w.setCell p u) g t cs := (Below.heap_setCell w p u g hp).trans h
theorem Blk.kept {S : Nat → Prop} (h : Blk w g t cs) (hk : Kp S w w') (hg : ¬ S g) : Blk w' g t cs := (hk.block g h.lt hg).trans h
theorem Blk.kept0 (h : Blk w g t cs) (hk : Kp0 w w') : Blk w' g t cs := h.kept hk id
theorem Blk.ne {g' : Nat} {t' : TypeId} {cs' : List Value} (h : Blk w g t cs) (h' : Blk w g' t' cs') (hne : t ≠ t') : g ≠ g' := by
  rintro rfl
  unfold Blk at h h'
  rw [h] at h'
  injection h' with h'
  injection h' with _ ht
  exact hne ht
end

theorem Kp.blk1 {w w' : World} {g g' : Nat} {t : TypeId} {cs : List Value} (hk : Kp (fun k => k = g') w w') (h : Blk w g t cs) (hne : g ≠ g') : Blk w' g t cs := h.kept hk hne
theorem Kp.after1 {S : Nat → Prop} {w w1 w2 : World} {g' : Nat} (k : Kp (fun k => k = g') w1 w2) (h : Kp S w w1) (hg : w.heap.size ≤ g') : Kp S w w2 := h.trans k fun i hi e => absurd (show i = g' from e) (by omega)

/-! ### A slice that reads as a list; nil, empty and other ones alike (elements of one cell) -/
def Rd (w : World) (A : Option Addr) (xs : List Value) : Prop :=
  xs = [] ∨ ∃ b o, A = some ⟨b, o, none⟩ ∧ ∀ j, j < xs.length → w.cell? ⟨b, o + j, none⟩ = xs[j]?
section
variable {w w' : World} {A : Option Addr} {xs : List Value}
theorem Rd.nil (w : World) (A : Option Addr) : Rd w A [] := .inl rfl
theorem Rd.at_ (h : Rd w A xs) {j : Nat} {u : Value} (hu : xs[j]? = some u) : ∃ b o, A = some ⟨b, o, none⟩ ∧ w.cell? ⟨b, o + j, none⟩ = some u := by
  have hj : j < xs.length := (List.getElem?_eq_some_iff.1 hu).1
  rcases h with rfl | ⟨b, o, e, hc⟩
  · simp at hj
  · exact ⟨b, o, e, (hc j hj).trans hu⟩
theorem Rd.addr (h : Rd w A xs) (hn : 0 < xs.length) : ∃ b o, A = some ⟨b, o, none⟩ ∧ b < w.heap.size ∧ ∀ j u, xs[j]? = some u → w.cell? ⟨b, o + j, none⟩ = some u := by
  rcases h with rfl | ⟨b, o, e, hc⟩
  · simp at hn
  · refine ⟨b, o, e, ?_, fun j u hu => (hc j (List.getElem?_eq_some_iff.1 hu).1).trans hu⟩
    have h0 := (hc 0 hn).trans (List.getElem?_eq_getElem hn)
    exact World.block_lt_of_cell? w _ h0
theorem Rd.keep (h : Rd w A xs) (hk : ∀ b o, A = some ⟨b, o, none⟩ → b < w.heap.size → w'.heap[b]? = w.heap[b]?) : Rd w' A xs := by
  rcases Nat.eq_zero_or_pos xs.length with h0 | h0
  · exact .inl (List.eq_nil_of_length_eq_zero h0)
  · obtain ⟨b, o, e, hb, hc⟩ := h.addr h0
    refine .inr ⟨b, o, e, fun j hj => ?_⟩
    rw [List.getElem?_eq_getElem hj]
    exact (World.cell?_of_block (w := w) (w' := w') (a := ⟨b, o + j, none⟩) (hk b o e hb)).trans (hc j _ (List.getElem?_eq_getElem hj))
theorem Rd.kept0 (h : Rd w A xs) (hk : Kp0 w w') : Rd w' A xs := h.keep fun b _ _ hb => hk.block b hb id
theorem Rd.kept {S : Nat → Prop} (h : Rd w A xs) (hk : Kp S w w') (hS : ∀ b o, A = some ⟨b, o, none⟩ → b < w.heap.size → ¬ S b) : Rd w' A xs := h.keep fun b o e hb => hk.block b hb (hS b o e hb)
theorem Rd.drew (h : Rd w A xs) : Rd w.drew A xs := h
theorem Rd.drewN (h : Rd w A xs) (n : Nat) : Rd (w.drewN n) A xs := h
theorem Rd.alloc (h : Rd w A xs) (o : Obj) : Rd (w.alloc o) A xs := h.kept0 ((Kp.refl _ w).alloc o)
/-- A cut. -/
theorem Rd.cut {b o : Nat} (h : Rd w (some ⟨b, o, none⟩) xs) (k : Nat) (ys : List Value) (hy : ∀ j, j < ys.length → xs[k + j]? = ys[j]?) : Rd w (some ⟨b, o + k, none⟩) ys := by
  rcases Nat.eq_zero_or_pos ys.length with h0 | h0
  · exact .inl (List.eq_nil_of_length_eq_zero h0)
  · refine .inr ⟨b, o + k, rfl, fun j hj => ?_⟩
    have hx : xs[k + j]? = some ys[j] := (hy j hj).trans (List.getElem?_eq_getElem hj)
    obtain ⟨b', o', e, hc⟩ := h.at_ hx
    cases e
    rw [Nat.add_assoc, hc, List.getElem?_eq_getElem hj]
end

/-- Bytes as they stand in memory. -/
def bv (xs : List UInt8) : List Value := xs.map fun b => .int .u8 (b.toNat : Int)
theorem length_bv (xs : List UInt8) : (bv xs).length = xs.length := by simp [bv]
theorem bv_append (xs ys : List UInt8) : bv (xs ++ ys) = bv xs ++ bv ys := by simp [bv]
theorem bv_get (xs : List UInt8) (j : Nat) (h : j < xs.length) : (bv xs)[j]? = some (.int .u8 ((xs.getD j 0).toNat : Int)) := by
  simp [bv, List.getElem?_eq_getElem h, List.getD_eq_getElem?_getD]
/-- Words as they stand in memory. -/
def wv (xs : List UInt32) : List Value := xs.map fun b => .int .u32 (b.toNat : Int)
theorem length_wv (xs : List UInt32) : (wv xs).length = xs.length := by simp [wv]
theorem wv_get (xs : List UInt32) (j : Nat) (h : j < xs.length) : (wv xs)[j]? = some (.int .u32 ((xs.getD j 0).toNat : Int)) := by
  simp [wv, List.getElem?_eq_getElem h, List.getD_eq_getElem?_getD]
/-- A slice of bytes that reads as xs. -/
abbrev RdB (w : World) (A : Option Addr) (xs : List UInt8) : Prop := Rd w A (bv xs)
theorem RdB.at_ {w : World} {A : Option Addr} {xs : List UInt8} (h : RdB w A xs) {j : Nat} (hj : j < xs.length) : ∃ b o, A = some ⟨b, o, none⟩ ∧ w.cell? ⟨b, o + j, none⟩ = some (.int .u8 ((xs.getD j 0).toNat : Int)) :=
  Rd.at_ h (bv_get xs j hj)

/-- A row that is filled from its begin. -/
theorem set_fill {α : Type} (l : List α) (n k : Nat) (z v : α) (hk : l.length = k) : (l ++ List.replicate (n + 1) z).set k v = (l ++ [v]) ++ List.replicate n z := by
  subst hk
  simp [List.replicate_succ]
theorem wv_snoc (l : List UInt32) (x : UInt32) : wv (l ++ [x]) = wv l ++ [.int .u32 (x.toNat : Int)] := by simp [wv]

theorem mix_set {α : Type} (l m : List α) (k : Nat) (v : α) (hl : l.length = m.length) (hv : l[k]? = some v) : (l.take k ++ m.drop k).set k v = l.take (k + 1) ++ m.drop (k + 1) := by
  have hk : k < l.length := (List.getElem?_eq_some_iff.1 hv).1
  apply List.ext_getElem?
  intro i
  rw [List.getElem?_set]
  by_cases h1 : k = i
  · subst h1
    rw [if_pos rfl, if_pos (by simp; omega), List.getElem?_append_left (by simp; omega), List.getElem?_take, if_pos (by omega), hv]
  · rw [if_neg h1]
    rcases Nat.lt_or_ge i k with h2 | h2
    · rw [List.getElem?_append_left (by simp; omega), List.getElem?_append_left (by simp; omega), List.getElem?_take, List.getElem?_take, if_pos h2, if_pos (by omega)]
    · rw [List.getElem?_append_right (by simp; omega), List.getElem?_append_right (by simp; omega), List.getElem?_drop, List.getElem?_drop]
      congr 1
      simp
      omega

end Go.Proofs.Ythnjhhohfhnhgaa
