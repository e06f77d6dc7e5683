/- The logic of pure values: bytes that are only read. -/
import Derived.Test.YthnjhhohfhnhgaaPvX
namespace Go.Proofs.Ythnjhhohfhnhgaa
open Go Go.RowKit

/-- Bytes that are only read. -/
abbrev bsl (x : List UInt8) : PV := .ro false x.length (pb x)
instance pb_cl (x : List UInt8) : ClL (pb x) := inferInstanceAs (ClL (x.map fun b => .int .u8 (b.toNat : Int)))
theorem rzl_pb {c : Cx} {xs : List UInt8} : RzL c (pb xs) (bv xs) := by
  rw [RzL_iff]
  refine ⟨by rw [length_bv, length_pb], fun i x hx => ?_⟩
  simp only [pb, List.getElem?_map] at hx
  obtain ⟨b, h1, rfl⟩ := Option.map_eq_some_iff.1 hx
  exact ⟨_, by simp [bv, h1], rfl⟩
theorem ro_in {c : Cx} {f : Bool} {n : Nat} {xs : List UInt8} {v : Value} (h : Rz c (.ro f n (pb xs)) v) : ∃ A cap, v = .slice A n cap ∧ n ≤ cap ∧ (A = none → cap = 0) ∧ RdB c.w A xs := by
  obtain ⟨A, cap, e, h1, _, h3, h4⟩ := h
  refine ⟨A, cap, e, h1, h3, ?_⟩
  rcases h4 with h4 | ⟨k, o, rfl, h4⟩
  · exact .inl (by simpa [pb, bv] using h4)
  · obtain ⟨us, h5, h6⟩ := h4.reads.vals
    obtain rfl := pb_bv h5
    exact .inr ⟨k, o, rfl, fun j hj => (h6 j _ (List.getElem?_eq_getElem hj)).trans (List.getElem?_eq_getElem hj).symm⟩
theorem ro_out {w : World} {V : Nat → Nat → Prop} {A : Option Addr} {n cap : Nat} {xs : List UInt8} (hR : RdB w A xs) (hl : xs.length = n) (hn : n ≤ cap) (hA : A = none → cap = 0) (hV : ∀ b o, A = some ⟨b, o, none⟩ → 0 < n → ∀ j, ¬ V b j) : Rz (cl w V) (.ro false n (pb xs)) (.slice A n cap) := by
  refine ⟨A, cap, rfl, hn, by simp, hA, ?_⟩
  by_cases h0 : xs = []
  · exact .inl (by simp [pb, h0])
  · have hpos : 0 < xs.length := List.length_pos_iff.2 h0
    obtain ⟨b, o, rfl, _, hc⟩ := Rd.addr hR (by rw [length_bv]; exact hpos)
    refine .inr ⟨b, o, rfl, ?_⟩
    rw [RzAt_iff]
    intro i x hx
    obtain ⟨u, h5, h6⟩ := ((RzL_iff _ _).1 (rzl_pb (c := cl w V) (xs := xs))).2 i x hx
    refine ⟨u, hc i u h5, ?_, h6⟩
    rintro (h | ⟨_, _, h, _⟩)
    · exact hV b o rfl (by omega) _ h
    · cases h
/-- Memory of the call's own is nothing that nothing may lead to. -/
theorem fresh_out {w w' : World} {V : Nat → Nat → Prop} (hV : ∀ k j, V k j → k < w.heap.size) {A : Option Addr} {n : Nat} (h : ∀ b o, A = some ⟨b, o, none⟩ → 0 < n → w.heap.size ≤ b) : ∀ b o, A = some ⟨b, o, none⟩ → 0 < n → ∀ j, ¬ V b j := by
  intro b o e hn j hv
  have := hV b j hv
  have := h b o e hn
  omega
theorem own_out {w w' : World} {V : Nat → Nat → Prop} (hV : ∀ k j, V k j → k < w.heap.size) {t : TypeId} {r : Option Nat} {A : Option Addr} {n cap : Nat} {xs : List UInt8} (hO : Own w' w.heap.size t r A n cap (bv xs)) (hA : A = none → cap = 0) : Rz (cl w' V) (.ro false n (pb xs)) (.slice A n cap) := by
  refine ro_out hO.rd (by rw [← length_bv]; exact hO.len) hO.2.1 hA (fresh_out (w := w) (w' := w') hV fun b o e h0 => ?_)
  obtain ⟨g, o', _, e2, h1, _⟩ := hO.lt h0
  rw [e] at e2
  injection e2 with e2
  injection e2 with e2
  omega
theorem own_out' {w w' : World} {V : Nat → Nat → Prop} (hV : ∀ k j, V k j → k < w.heap.size) {t : TypeId} {r : Option Nat} {A : Option Addr} {n cap : Nat} {xs : List UInt8} (hO : Own w' w.heap.size t r A n cap (bv xs)) (h0 : 0 < n) : Rz (cl w' V) (.ro false n (pb xs)) (.slice A n cap) :=
  own_out hV hO fun e => by obtain ⟨g, o, _, e2, _⟩ := hO.lt h0; rw [e] at e2; cases e2
/-- One argument, two, three, four. -/
theorem rzl1 {c : Cx} {x : PV} {vs : Array Value} (h : RzL c [x] vs.toList) : ∃ u, vs = #[u] ∧ Rz c x u := by
  obtain ⟨u, us, e, h1, h2⟩ := h
  simp only [RzL] at h2
  subst h2
  exact ⟨u, by rw [← vs.toArray_toList, e], h1⟩
theorem rzl2 {c : Cx} {x y : PV} {vs : Array Value} (h : RzL c [x, y] vs.toList) : ∃ u v, vs = #[u, v] ∧ Rz c x u ∧ Rz c y v := by
  obtain ⟨u, us, e, h1, v, us2, e2, h2, h3⟩ := h
  simp only [RzL] at h3
  subst h3
  subst e2
  exact ⟨u, v, by rw [← vs.toArray_toList, e], h1, h2⟩
theorem rzl3 {c : Cx} {x y z : PV} {vs : Array Value} (h : RzL c [x, y, z] vs.toList) : ∃ u v q, vs = #[u, v, q] ∧ Rz c x u ∧ Rz c y v ∧ Rz c z q := by
  obtain ⟨u, us, e, h1, v, us2, e2, h2, q, us3, e3, h3, h4⟩ := h
  simp only [RzL] at h4
  subst h4
  subst e3
  subst e2
  exact ⟨u, v, q, by rw [← vs.toArray_toList, e], h1, h2, h3⟩
theorem rzl0 {c : Cx} {vs : Array Value} (h : RzL c [] vs.toList) : vs = #[] := by
  simp only [RzL] at h
  rw [← vs.toArray_toList, h]
/-- An own slice of bytes, handed over. -/
theorem snap_osb {H : Nat → Option Blk'} {b g off n : Nat} {blk : Blk'} {xs : List UInt8} (hb : H b = some blk) (hg : g = blk.gen) (he : blk.es = 1) (hn : off + n ≤ blk.cells.length) (hc : (blk.cells.drop off).take n = pb xs) : Snap H [b] (.os b g off n) (.ro false n (pb xs)) :=
  snap_os (by simp) hb hg (by rw [he]; omega) (by rw [he, Nat.mul_one, hc]; exact (pb_cl xs).out _ _)
theorem snap_osw {H : Nat → Option Blk'} {b g n lo : Nat} {cs : List PV} {xs : List UInt8} (hb : H b = some ⟨g, 1, lo, cs⟩) (hn : xs.length = n) (hc : cs = pb xs) : Snap H [b] (.os b g 0 n) (.ro false n (pb xs)) := by
  subst hc
  exact snap_osb hb rfl rfl (by simp [length_pb, hn]) (by rw [List.drop_zero, ← hn, ← length_pb, List.take_length])
theorem zeros_pb (l : Nat) : zerosPV (.int .u8 0) 1 l = pb (List.replicate l 0) := by
  apply List.ext_getElem?
  intro i
  simp only [zerosPV, pb, List.getElem?_map, List.getElem?_range', List.map_replicate]
  rcases Nat.lt_or_ge i l with h | h
  · rw [List.getElem?_eq_getElem (by simpa using h), List.getElem?_replicate, if_pos h]
    simp [Nat.mod_one]
    rfl
  · rw [List.getElem?_eq_none (by simpa using h), List.getElem?_replicate, if_neg (by omega)]
    rfl
/-- make([]byte, l). -/
theorem oMakeB {P : Program} {N n : Nat} {o : Oper} {T : Nat → PV} {H : Nat → Option Blk'} {t : TypeId} {x y : Operand} (ho : o.op = .makeSlice t x y) (hN : dstB o.dst N = true) {e : TypeId} {s1 b1 : Nat} [h1 : Ty P t (.slice e) s1 b1] {d : TypeDesc} [h2 : Ty P e d 1 1] [hz : TyZ P e (.int .u8 0)] {k k' : IntKind} {l : Nat} (hx : ev T x = .int k l) (hy : ev T y = .int k' l)
    (hb : l ≤ 1000000000) : OpOk P N o T H n (.os n 0 0 l) (setH H n ⟨0, 1, 0, pb (List.replicate l 0)⟩) (n + 1) [] [n] := by
  have := oMake (P := P) (N := N) (T := T) (H := H) (n := n) ho hN hx hy (by omega) (by omega) (by omega) (by omega) rfl (by decide)
  rwa [Int.toNat_natCast, zeros_pb] at this
/-- One result, an own slice of bytes that is its whole block. -/
theorem ret1b {P : Program} {N t i g n lo m : Nat} {fn : Func} {TL : List (Nat × PV)} {HL : List (Nat × Blk')} {xs : List UInt8} (h : fn.results = #[.tmp t]) (hl : Lk TL t (.os i g 0 n)) (hb : hget HL i = some ⟨g, 1, lo, pb xs⟩) (hn : xs.length = n) : ∃ r0 vis, ResOk P N fn (St' TL HL m) r0 ∧ Snap (St' TL HL m).H vis r0 (.ro false n (pb xs)) :=
  ⟨.os i g 0 n, [i], .one h (res_tmp hl), snap_osw hb hn rfl⟩
theorem len_pb {c : Cx} {f : Bool} {n : Nat} {xs : List UInt8} : (pb xs).length = xs.length := length_pb xs
end Go.Proofs.Ythnjhhohfhnhgaa
