/- The logic of pure values: loops, at whose end the own blocks are numbered anew. -/
import Derived.Test.YthnjhhohfhnhgaaPvOw
namespace Go.Proofs.Ythnjhhohfhnhgaa
open Go Go.RowKit

/-- t tells what s tells, or less; block m of t is block ρ[m] of s; blocks in vis stand from then on, and are let go. -/
structure Renum (k : Nat) (ρ vis : List Nat) (s t : LSt) : Prop where
  len : ρ.length = t.n
  nd : ρ.Nodup
  low : ∀ m, m < k → ρ[m]? = some m
  dis : ∀ i ∈ vis, i ∉ ρ
  T : ∀ i, Tr (inM ρ) s.H vis (s.T i) (t.T i)
  H : ∀ m b, t.H m = some b → ∃ i b0, ρ[m]? = some i ∧ s.H i = some b0 ∧ BlkTr (inM ρ) s.H vis b0 b
theorem Renum.reach {P : Program} {N k : Nat} {ρ vis : List Nat} {s t : LSt} (h : Renum k ρ vis s t) {x : Cx} {a : Act} (hs : HSim x) (ts : TSim x s.T a N) (hH : x.H = s.H) : ∃ y : Cx, y.w = x.w ∧ ReachK P N k x a t.T t.H t.n y a := by
  have hget : ∀ m i, ρ[m]? = some i → ρ.getD m 0 = i ∧ m < ρ.length := fun m i e => ⟨by rw [List.getD_eq_getElem?_getD, e]; rfl, (List.getElem?_eq_some_iff.1 e).1⟩
  have hinj : ∀ m q i, ρ[m]? = some i → ρ[q]? = some i → m = q := fun m q i h1 h2 => (List.getElem?_inj (hget m i h1).2 h.nd).1 (h1.trans h2.symm)
  let y : Cx := ⟨x.w, t.H, fun m => m < t.n ∧ x.B (ρ.getD m 0), fun m => x.φ (ρ.getD m 0), x.V⟩
  have hb : ∀ m b, y.H m = some b → ∃ i b0, ρ[m]? = some i ∧ ρ.getD m 0 = i ∧ x.H i = some b0 ∧ BlkTr (inM ρ) s.H vis b0 b := fun m b e => by
    obtain ⟨i, b0, h1, h2, h3⟩ := h.H m b e
    exact ⟨i, b0, h1, (hget m i h1).1, by rw [hH]; exact h2, h3⟩
  have hav : ∀ q j, ¬ x.av q j → ¬ y.av q j := by
    rintro q j h1 (h2 | ⟨m, b, h2, h3, h4⟩)
    · exact h1 (.inl h2)
    · obtain ⟨i, b0, e1, e2, e3, e4⟩ := hb m b h2
      have h3' : (x.φ (ρ.getD m 0)).1 = q := h3
      have h4' : (x.φ (ρ.getD m 0)).2 + b.lo ≤ j := h4
      rw [e2] at h3' h4'
      exact h1 (.inr ⟨i, b0, e3, h3', by rw [← e4.lo]; exact h4'⟩)
  have hvis : ∀ i ∈ vis, ∀ z, x.H i = some z → ∀ j, j < z.cells.length → ¬ y.av (x.φ i).1 ((x.φ i).2 + j) := by
    rintro i hi z hz j hj (h2 | ⟨m, b, h2, h3, h4⟩)
    · exact hs.Vown i z hz _ (Nat.le_add_right _ _) h2
    · obtain ⟨i', b0, e1, e2, e3, e4⟩ := hb m b h2
      have h3' : (x.φ (ρ.getD m 0)).1 = (x.φ i).1 := h3
      rw [e2] at h3'
      have := hs.inj i' i b0 z e3 hz h3'
      subst this
      exact h.dis i' hi (List.mem_of_getElem? e1)
  have hcor : Cor (inM ρ) x y := ⟨rfl, fun i m (e : ρ[m]? = some i) hB => by
    obtain ⟨e2, e3⟩ := hget m i e
    refine ⟨⟨by rw [← h.len]; exact e3, by rw [e2]; exact hB⟩, by show x.φ (ρ.getD m 0) = _; rw [e2], fun z hz => ?_⟩
    obtain ⟨i', b0, f1, _, f3, f4⟩ := hb m z hz
    rw [e] at f1
    injection f1 with f1
    subst f1
    exact ⟨b0, f3, f4.gen.symm, f4.es.symm⟩⟩
  have hHv : ∀ i ∈ vis, x.H i = s.H i := fun i _ => by rw [hH]
  refine ⟨y, rfl, ⟨⟨rfl, rfl, rfl, Nat.le_refl _, rfl, fun i hi hB => ?_, fun _ _ _ => rfl, fun _ _ _ _ _ => rfl, fun m b e => ?_, fun i b hi hB e => ?_⟩, ⟨fun m b e => ?_, fun m b e => ?_, fun m q b b' e1 e2 e3 => ?_, hs.Vlt, fun m b e j hj hV => ?_⟩, ⟨ts.size, fun i => ?_⟩, rfl, fun m hm => hm.1, .same rfl⟩⟩
  · obtain ⟨e2, e3⟩ := hget i i (h.low i hi)
    exact ⟨by rw [← h.len]; exact e3, by rw [e2]; exact hB⟩
  · obtain ⟨i, b0, e1, e2, e3, e4⟩ := hb m b e
    refine .inl ⟨i, b0, e3, ?_, by show _ = (x.φ (ρ.getD m 0)).1; rw [e2], by show _ ≤ (x.φ (ρ.getD m 0)).2 + b.lo; rw [e2, e4.lo]; exact Nat.le_refl _⟩
    rintro (hm | hi)
    · have := h.low m hm
      rw [e1] at this
      injection this
    · exact hinj i m i (h.low i hi) e1
  · obtain ⟨i', b0, e1, e2, e3, e4⟩ := hb i b e
    have := h.low i hi
    rw [e1] at this
    injection this with this
    subst this
    refine ⟨b0, e3, Nat.le_of_eq e4.gen.symm, fun _ => ⟨by show x.φ (ρ.getD i' 0) = _; rw [e2], e4.es, Nat.le_refl _⟩⟩
  · obtain ⟨i, b0, e1, e2, e3, e4⟩ := hb m b e
    exact ⟨by rw [← h.len]; exact (hget m i e1).2, by rw [e2]; exact hs.born i b0 e3⟩
  · obtain ⟨i, b0, e1, e2, e3, e4⟩ := hb m b e
    show Lies y x.w.heap[(x.φ (ρ.getD m 0)).1]? (x.φ (ρ.getD m 0)).2 b
    rw [e2]
    exact (hs.blk i b0 e3).tr e4 hs hHv hcor hav hvis
  · obtain ⟨i, b0, f1, f2, f3, _⟩ := hb m b e1
    obtain ⟨i', b0', g1, g2, g3, _⟩ := hb q b' e2
    have e3' : (x.φ (ρ.getD m 0)).1 = (x.φ (ρ.getD q 0)).1 := e3
    rw [f2, g2] at e3'
    have := hs.inj i i' b0 b0' f3 g3 e3'
    subst this
    exact hinj m q i f1 g1
  · obtain ⟨i, b0, e1, e2, e3, e4⟩ := hb m b e
    have hj' : (x.φ (ρ.getD m 0)).2 ≤ j := hj
    have hV' : x.V (x.φ (ρ.getD m 0)).1 j := hV
    rw [e2] at hj' hV'
    exact hs.Vown i b0 e3 j hj' hV'
  · exact h.T i x y _ hs hHv hcor hav hvis (ts.at_ i)

theorem Tr.osI {ρ : List Nat} {H : Nat → Option Blk'} {vis : List Nat} {i j g off n : Nat} (h : ρ[j]? = some i) : Tr (inM ρ) H vis (.os i g off n) (.os j g off n) := .os h
theorem Tr.opI {ρ : List Nat} {H : Nat → Option Blk'} {vis : List Nat} {i j g off : Nat} (h : ρ[j]? = some i) : Tr (inM ρ) H vis (.op i g off) (.op j g off) := .op h
theorem Tr.eq {M : Nat → Nat → Prop} {H : Nat → Option Blk'} {vis : List Nat} {x y : PV} (e : x = y) [h : Cl x] : Tr M H vis x y := by
  subst e
  exact .snap (h.out H vis)
def LessR (k : Nat) (s t : LSt) : Prop := ∃ ρ vis, Renum k ρ vis s t
section
variable {R0 : Option Nat} {P : Program} {N k0 : Nat} {Q : Exit → LSt → Prop} {s : LSt}
theorem lwp_renum {c : Code} {t : LSt} (hl : LessR k0 s t) (h : lwp R0 P N k0 c Q t) : lwp R0 P N k0 c Q s := by
  obtain ⟨ρ, vis, hl⟩ := hl
  intro m x a hs ts hH hB
  obtain ⟨y, hw, hR⟩ := hl.reach (P := P) hs ts hH
  have := h m y a hR.hs hR.ts hR.heap hR.born
  rw [hw] at this
  refine wpIn_mono this ?_
  rintro e a' w' ⟨s', x', hq, h1, hR2⟩
  exact ⟨s', x', hq, h1, hR.trans hR2 hs⟩
theorem lwp_loopR {c : Code} (I : Nat → LSt → Prop) (k : Nat) (t : LSt) (hl : LessR k0 s t) (h0 : I k t)
    (round : ∀ k s, I k s → lwp R0 P N k0 c (thenL (fun s' => ∃ k' t', k' < k ∧ LessR k0 s' t' ∧ I k' t') Q) s) : lwp R0 P N k0 (.loop c) Q s := by
  refine lwp_renum hl ?_
  intro m x a hs ts hH hB
  refine wp_loop_k (fun k a' w' => ∃ s' x', I k s' ∧ x'.w = w' ∧ ReachK P N k0 x a s'.T s'.H s'.n x' a') k ⟨t, x, h0, rfl, .refl hs ts hH hB⟩ ?_
  rintro k2 a2 w2 ⟨s2, x2, hI, rfl, hR⟩
  refine wpIn_mono (round k2 s2 hI m x2 a2 hR.hs hR.ts hR.heap hR.born) ?_
  rintro e a' w' ⟨s', x', hq, rfl, hR2⟩
  cases e with
  | normal =>
    obtain ⟨k', t', hlt, ⟨ρ, vis, hls⟩, hI'⟩ := hq
    obtain ⟨y, hw, hR3⟩ := hls.reach (P := P) hR2.hs hR2.ts hR2.heap
    exact ⟨k', hlt, t', y, hI', hw, (hR.trans hR2 hs).trans hR3 hs⟩
  | _ => exact ⟨s', x', hq, rfl, hR.trans hR2 hs⟩
end
/-- Of lists. -/
theorem lessR_of {k n n' : Nat} {TL TL' : List (Nat × PV)} {HL HL' : List (Nat × Blk')} (ρ vis : List Nat) (hlen : ρ.length = n') (hnd : ρ.Nodup) (hlow : ∀ m, m < k → ρ[m]? = some m) (hdis : ∀ i ∈ vis, i ∉ ρ)
    (hT : ∀ p ∈ TL', ∃ q, Lk TL p.1 q ∧ Tr (inM ρ) (hget HL) vis q p.2) (hH : ∀ p ∈ HL', ∃ i b0, ρ[p.1]? = some i ∧ hget HL i = some b0 ∧ BlkTr (inM ρ) (hget HL) vis b0 p.2) : LessR k (St' TL HL n) (St' TL' HL' n') := by
  refine ⟨ρ, vis, hlen, hnd, hlow, hdis, fun i => ?_, fun m b e => ?_⟩
  · show Tr (inM ρ) (hget HL) vis (tget TL i) (tget TL' i)
    rcases tget_or TL' i with h | ⟨p, hp, rfl, h2⟩
    · rw [h]; exact fun _ _ _ _ _ _ _ _ _ => by simp [Rz]
    · obtain ⟨q, h3, h4⟩ := hT p hp
      rw [h2, show tget TL p.1 = q from h3]
      exact h4
  · obtain ⟨p, hp, rfl, rfl⟩ := hget_or HL' m b e
    exact hH p hp
end Go.Proofs.Ythnjhhohfhnhgaa
