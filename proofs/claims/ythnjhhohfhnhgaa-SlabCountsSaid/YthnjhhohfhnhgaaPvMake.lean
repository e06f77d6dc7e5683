/- The logic of pure values: the operations that make memory or write it. -/
import Derived.Test.YthnjhhohfhnhgaaPvMem
import Derived.Deep.AppendSrc
import Derived.Laws.IdiomCopy
import Derived.Laws.AppendOwn
namespace Go.Proofs.Ythnjhhohfhnhgaa
open Go Go.RowKit

abbrev setH (H : Nat → Option Blk') (i : Nat) (b : Blk') : Nat → Option Blk' := fun j => match Nat.beq j i with
  | true => some b
  | false => H j
theorem setH_same (H : Nat → Option Blk') (i : Nat) (b : Blk') : setH H i b i = some b := by simp [setH]
theorem setH_ne (H : Nat → Option Blk') {i j : Nat} (b : Blk') (h : j ≠ i) : setH H i b j = H j := by
  have : Nat.beq j i = false := by
    cases hq : Nat.beq j i with
    | false => rfl
    | true => exact absurd (Nat.eq_of_beq_eq_true hq) h
  simp [setH, this]
theorem over_setH (G H : Nat → Option Blk') (i : Nat) (b : Blk') : over G (setH H i b) [i] = setH G i b := by
  funext j
  by_cases h : j = i
  · subst h; simp [over, setH]
  · simp [over, setH, beq_ne h, h]
/-- Block number i is laid anew, at place p, in a later world. -/
def Cx.lay (c : Cx) (w' : World) (i : Nat) (p : Nat × Nat) (b : Blk') : Cx := ⟨w', setH c.H i b, fun j => c.B j ∨ j = i, fun j => if Nat.beq j i then p else c.φ j, c.V⟩

/-- A block of its own, in memory that was not there. -/
theorem ext_new {c : Cx} {w' : World} (hs : HSim c) (hk : Kp0 c.w w') {i k o : Nat} {b : Blk'} (hes : 0 < b.es) (hi : ∀ x, c.B i → c.H i = some x → x.gen < b.gen) (hi2 : c.B i → ∃ x, c.H i = some x) (hk1 : c.w.heap.size ≤ k) {arr : Array Value} {ty : TypeId}
    (hb : w'.heap[k]? = some (.cells arr ty (0, 0))) (hlen : o + b.cells.length ≤ arr.size) (hc : ∀ (j : Nat) (x : PV), b.cells[j]? = some x → ∃ u, arr[o + j]? = some u ∧ Rz c x u) :
    Ext c (c.lay w' i (k, o) b) ∧ HSim (c.lay w' i (k, o) b) := by
  have hblk : ∀ k, k < c.w.heap.size → w'.heap[k]? = c.w.heap[k]? := fun k hk' => hk.block k hk' id
  have hne : ∀ j x, j ≠ i → (c.lay w' i (k, o) b).H j = some x → c.H j = some x ∧ (c.lay w' i (k, o) b).φ j = c.φ j := fun j x hj h => by
    refine ⟨?_, by simp [Cx.lay, hj]⟩
    have : (c.lay w' i (k, o) b).H j = c.H j := setH_ne _ _ hj
    rwa [this] at h
  have hself : (c.lay w' i (k, o) b).φ i = (k, o) := by simp [Cx.lay]
  have he : Ext c (c.lay w' i (k, o) b) := by
    refine ⟨hk.os, hk.tape, hk.output, hk.size, rfl, fun _ h => .inl h, fun m hm _ => hblk m hm, fun j x hx q _ => ?_, fun j x hx => ?_, fun j x hB hx => ?_⟩
    · show w'.cell? _ = _
      simp only [World.cell?, hblk _ (hs.lt hx)]
    · by_cases hj : j = i
      · subst hj; rw [hself]; exact .inr hk1
      · obtain ⟨h1, h2⟩ := hne j x hj hx
        exact .inl ⟨x, h1, by rw [h2], by rw [h2]; exact Nat.le_refl _⟩
    · by_cases hj : j = i
      · subst hj
        obtain ⟨y, hy⟩ := hi2 hB
        have := hi y hB hy
        have hx' : b = x := by
          have : (c.lay w' j (k, o) b).H j = some b := setH_same _ _ _
          rw [this] at hx; injection hx
        subst hx'
        exact ⟨y, hy, by omega, fun e => by omega⟩
      · obtain ⟨h1, h2⟩ := hne j x hj hx
        refine ⟨x, h1, Nat.le_refl _, fun _ => ⟨h2, rfl, ?_⟩⟩
        show msize c.w _ ≤ msize w' _
        simp only [msize, hblk _ (hs.lt h1)]
        exact Nat.le_refl _
  refine ⟨he, fun j x hx => ?_, fun j x hx => ?_, fun j1 j2 x y hx hy e => ?_, fun m q h => Nat.lt_of_lt_of_le (hs.Vlt m q h) hk.size, fun j x hx q hq => ?_⟩
  · by_cases hj : j = i
    · exact .inr hj
    · exact .inl (hs.born j x (hne j x hj hx).1)
  · by_cases hj : j = i
    · subst hj
      have hx' : b = x := by
        have : (c.lay w' j (k, o) b).H j = some b := setH_same _ _ _
        rw [this] at hx; injection hx
      subst hx'
      refine .inl ⟨hes, arr, ty, by rw [hself]; exact hb, by rw [hself]; exact hlen, fun q z hz => ?_⟩
      obtain ⟨u, h1, h2⟩ := hc q z hz
      exact ⟨u, by rw [hself]; exact h1, Rz_ext he _ _ h2⟩
    · obtain ⟨h1, h2⟩ := hne j x hj hx
      have h3 := (hs.blk j x h1).ext he
      rw [← hblk _ (hs.lt h1)] at h3
      rw [h2]
      exact h3
  · by_cases h1 : j1 = i
    · subst h1
      by_cases h2 : j2 = j1
      · exact h2.symm
      · obtain ⟨h3, h4⟩ := hne j2 y h2 hy
        rw [hself, h4] at e
        have := hs.lt h3
        simp only at e
        omega
    · obtain ⟨h3, h4⟩ := hne j1 x h1 hx
      by_cases h2 : j2 = i
      · subst h2
        rw [hself, h4] at e
        have := hs.lt h3
        simp only at e
        omega
      · obtain ⟨h5, h6⟩ := hne j2 y h2 hy
        rw [h4, h6] at e
        exact hs.inj j1 j2 x y h3 h5 e
  · by_cases hj : j = i
    · subst hj
      rw [hself]
      intro h
      have := hs.Vlt _ _ h
      simp only at this
      omega
    · obtain ⟨h1, h2⟩ := hne j x hj hx
      rw [h2] at hq ⊢
      exact hs.Vown j x h1 q hq

/-- A block of its own is written where it lies. -/
theorem ext_turn {c : Cx} {w' : World} (hs : HSim c) {i : Nat} {old b : Blk'} (hes : 0 < b.es) (hi : c.H i = some old) (hk : Kp (fun k => k = (c.φ i).1) c.w w') {arr arr' : Array Value} {ty : TypeId}
    (ha : c.w.heap[(c.φ i).1]? = some (.cells arr ty (0, 0))) (hb : w'.heap[(c.φ i).1]? = some (.cells arr' ty (0, 0))) (hsz : arr'.size = arr.size) (hprot : ∀ j, j < (c.φ i).2 + old.lo → arr'[j]? = arr[j]?)
    {o : Nat} (ho : (c.φ i).2 ≤ o) (hlo : (c.φ i).2 + old.lo ≤ o + b.lo) (hg : old.gen ≤ b.gen) (hsame : old.gen = b.gen → o = (c.φ i).2 ∧ b.es = old.es)
    (hlen : o + b.cells.length ≤ arr'.size) (hc : ∀ (j : Nat) (x : PV), b.cells[j]? = some x → ∃ u, arr'[o + j]? = some u ∧ Rz c x u) :
    Ext c (c.lay w' i ((c.φ i).1, o) b) ∧ HSim (c.lay w' i ((c.φ i).1, o) b) := by
  have hblk : ∀ k, k < c.w.heap.size → k ≠ (c.φ i).1 → w'.heap[k]? = c.w.heap[k]? := fun k hk' hn => hk.block k hk' hn
  have hne : ∀ j x, j ≠ i → (c.lay w' i ((c.φ i).1, o) b).H j = some x → c.H j = some x ∧ (c.lay w' i ((c.φ i).1, o) b).φ j = c.φ j := fun j x hj h => by
    refine ⟨?_, by simp [Cx.lay, hj]⟩
    have : (c.lay w' i ((c.φ i).1, o) b).H j = c.H j := setH_ne _ _ hj
    rwa [this] at h
  have hself : (c.lay w' i ((c.φ i).1, o) b).φ i = ((c.φ i).1, o) := by simp [Cx.lay]
  have hapart : ∀ j x, j ≠ i → c.H j = some x → (c.φ j).1 ≠ (c.φ i).1 := fun j x hj hx e => hj (hs.inj j i x old hx hi e)
  have hms : msize c.w (c.φ i).1 = msize w' (c.φ i).1 := by simp only [msize, ha, hb, hsz]
  have he : Ext c (c.lay w' i ((c.φ i).1, o) b) := by
    refine ⟨hk.os, hk.tape, hk.output, hk.size, rfl, fun _ h => .inl h, fun m hm hn => hblk m hm (fun e => hn i old hi e.symm), fun j x hx q hq => ?_, fun j x hx => ?_, fun j x hB hx => ?_⟩
    · show w'.cell? _ = _
      by_cases hj : j = i
      · subst hj
        rw [hi] at hx; injection hx with hx; subst hx
        simp only [World.cell?, ha, hb, hprot q hq]
      · simp only [World.cell?, hblk _ (hs.lt hx) (hapart j x hj hx)]
    · by_cases hj : j = i
      · subst hj
        have hx' : b = x := by
          have : (c.lay w' j ((c.φ j).1, o) b).H j = some b := setH_same _ _ _
          rw [this] at hx; injection hx
        subst hx'
        exact .inl ⟨old, hi, by rw [hself], by rw [hself]; exact hlo⟩
      · obtain ⟨h1, h2⟩ := hne j x hj hx
        exact .inl ⟨x, h1, by rw [h2], by rw [h2]; exact Nat.le_refl _⟩
    · by_cases hj : j = i
      · subst hj
        have hx' : b = x := by
          have : (c.lay w' j ((c.φ j).1, o) b).H j = some b := setH_same _ _ _
          rw [this] at hx; injection hx
        subst hx'
        refine ⟨old, hi, hg, fun e => ?_⟩
        obtain ⟨h1, h2⟩ := hsame e
        exact ⟨by rw [hself, h1], h2, Nat.le_of_eq hms⟩
      · obtain ⟨h1, h2⟩ := hne j x hj hx
        refine ⟨x, h1, Nat.le_refl _, fun _ => ⟨h2, rfl, ?_⟩⟩
        show msize c.w _ ≤ msize w' _
        simp only [msize, hblk _ (hs.lt h1) (hapart j x hj h1)]
        exact Nat.le_refl _
  refine ⟨he, fun j x hx => ?_, fun j x hx => ?_, fun j1 j2 x y hx hy e => ?_, fun m q h => Nat.lt_of_lt_of_le (hs.Vlt m q h) hk.size, fun j x hx q hq => ?_⟩
  · by_cases hj : j = i
    · exact .inr hj
    · exact .inl (hs.born j x (hne j x hj hx).1)
  · by_cases hj : j = i
    · subst hj
      have hx' : b = x := by
        have : (c.lay w' j ((c.φ j).1, o) b).H j = some b := setH_same _ _ _
        rw [this] at hx; injection hx
      subst hx'
      refine .inl ⟨hes, arr', ty, by rw [hself]; exact hb, by rw [hself]; exact hlen, fun q z hz => ?_⟩
      obtain ⟨u, h1, h2⟩ := hc q z hz
      exact ⟨u, by rw [hself]; exact h1, Rz_ext he _ _ h2⟩
    · obtain ⟨h1, h2⟩ := hne j x hj hx
      have h3 := (hs.blk j x h1).ext he
      rw [← hblk _ (hs.lt h1) (hapart j x hj h1)] at h3
      rw [h2]
      exact h3
  · have hφ : ∀ j, ((c.lay w' i ((c.φ i).1, o) b).φ j).1 = (c.φ j).1 := fun j => by
      by_cases hj : j = i
      · subst hj; rw [hself]
      · simp [Cx.lay, hj]
    rw [hφ, hφ] at e
    have hget : ∀ j x, (c.lay w' i ((c.φ i).1, o) b).H j = some x → ∃ y, c.H j = some y := fun j x hx => by
      by_cases hj : j = i
      · subst hj; exact ⟨old, hi⟩
      · exact ⟨x, (hne j x hj hx).1⟩
    obtain ⟨x', hx'⟩ := hget j1 x hx
    obtain ⟨y', hy'⟩ := hget j2 y hy
    exact hs.inj j1 j2 x' y' hx' hy' e
  · by_cases hj : j = i
    · subst hj
      rw [hself] at hq ⊢
      exact hs.Vown j old hi q (Nat.le_trans ho hq)
    · obtain ⟨h1, h2⟩ := hne j x hj hx
      rw [h2] at hq ⊢
      exact hs.Vown j x h1 q hq

/-! ### What a value takes up -/
def cellsPV : PV → List PV
  | .agg xs => xs
  | x => [x]
def leaf : PV → Bool
  | .junk | .agg _ | .tup _ => false
  | _ => true
theorem leaf_one {c : Cx} {x : PV} {u : Value} (h : leaf x = true) (hx : Rz c x u) : u.oneCell' = true ∧ u.cells = #[u] := by
  cases x <;> simp only [leaf, Bool.false_eq_true] at h
  case ro => obtain ⟨A, cap, rfl, _⟩ := hx; exact ⟨rfl, rfl⟩
  case rp => obtain ⟨a, rfl, _⟩ := hx; exact ⟨rfl, rfl⟩
  case fn => obtain ⟨a, b, rfl, _⟩ := hx; exact ⟨rfl, rfl⟩
  case os => obtain ⟨⟨A, m, cap, rfl⟩, _⟩ := hx; exact ⟨rfl, rfl⟩
  case op => obtain ⟨⟨A, rfl⟩, _⟩ := hx; exact ⟨rfl, rfl⟩
  case mp => obtain ⟨⟨A, rfl⟩, _⟩ := hx; exact ⟨rfl, rfl⟩
  case rm => obtain ⟨k, es, cl, rfl, _⟩ := hx; exact ⟨rfl, rfl⟩
  all_goals (simp only [Rz] at hx; subst hx; exact ⟨rfl, rfl⟩)

theorem cellsPV_rz {c : Cx} {x : PV} {u : Value} (hx : Rz c x u) (h : leaf x = true ∨ ∃ xs, x = .agg xs) : RzL c (cellsPV x) u.cells.toList := by
  rcases h with h | ⟨xs, rfl⟩
  · have h1 := (leaf_one h hx).2
    have h2 : cellsPV x = [x] := by cases x <;> first | rfl | (simp [leaf] at h)
    rw [h1, h2]
    exact ⟨u, [], rfl, hx, rfl⟩
  · obtain ⟨cs, rfl, hl⟩ := hx
    exact hl
def whole : PV → Bool
  | .junk | .tup _ => false
  | _ => true
theorem whole_or {x : PV} (h : whole x = true) : leaf x = true ∨ ∃ xs, x = .agg xs := by
  cases x <;> first | (simp [whole] at h; done) | exact .inl rfl | exact .inr ⟨_, rfl⟩
theorem RzL_ext' {c c' : Cx} {xs : List PV} {vs : List Value} (h : RzL c xs vs) (k : Ext c c') : RzL c' xs vs := RzL_ext k _ _ h

section
variable {P : Program} {N : Nat} {o : Oper} {T : Nat → PV} {H : Nat → Option Blk'} {n : Nat}
/-- A new block that is the call's own. -/
theorem opOk_new {es : Nat} (hes : 0 < es) {cells : List PV} (hd : ∀ d, o.dst = some d → d < N) {v : PV} (R : List Nat) (off : Nat)
    (hv : ∀ (c : Cx) (u : Value), Rz c v u ↔ ∃ q, q = u ∧ Rz c v u)
    (h : ∀ (c : Cx) (a : Act) (T2 : Nat → PV), HSim c → TSim c T2 a N → (∀ t ∈ looks o, T2 t = T t) → (∀ i, i ∈ R → c.H i = H i) →
      ∃ (u : Value) (w' : World) (k : Nat) (arr : Array Value) (ty : TypeId), (execOp a.eval o).run P c.w = .ok (.value u) w' ∧ Kp0 c.w w' ∧ c.w.heap.size ≤ k ∧ w'.heap[k]? = some (.cells arr ty (0, 0)) ∧
        (cells.length ≤ arr.size ∧ ∀ (j : Nat) (x : PV), cells[j]? = some x → ∃ q, arr[j]? = some q ∧ Rz c x q) ∧
        ∀ c', c'.w = w' → c'.B n → c'.H n = some ⟨0, es, 0, cells⟩ → c'.φ n = (k, 0) → Rz c' v u) :
    OpOk P N o T H n v (setH H n ⟨0, es, 0, cells⟩) (n + 1) R [n] := by
  refine ⟨Nat.le_succ n, fun i hi => setH_ne _ _ (by simpa using hi), fun i h1 h2 => by simp; omega, hd, fun c a T2 hs ht hT hH hB K Q hK => ?_⟩
  obtain ⟨u, w', k, arr, ty, hr, hkp, hk, hb, ⟨hl, hc⟩, hu⟩ := h c a T2 hs ht hT (fun i hi => hH i (.inl hi))
  have hnB : ¬ c.B n := hB n (Nat.le_refl _) (Nat.lt_succ_self n)
  obtain ⟨he, hs'⟩ := ext_new hs hkp (i := n) (k := k) (o := 0) (b := ⟨0, es, 0, cells⟩) hes (fun _ h => absurd h hnB) (fun h => absurd h hnB) hk hb (by simpa using hl) (fun j x hx => by
    obtain ⟨q, h1, h2⟩ := hc j x hx
    exact ⟨q, by simpa using h1, h2⟩)
  unfold Oper.wp
  rw [hr]
  refine hK (c.lay w' n (k, 0) ⟨0, es, 0, cells⟩) u he hs' (fun i => ?_) (by rw [over_setH]; rfl) (hu _ rfl (.inr rfl) (setH_same _ _ _) (by simp [Cx.lay]))
  show (c.B i ∨ i = n) ↔ _
  constructor
  · rintro (h | h)
    · exact .inl h
    · exact .inr (by omega)
  · rintro (h | h)
    · exact .inl h
    · exact .inr (by omega)

theorem box_run {t : TypeId} {v : Value} (w : World) : (newVar t v).run P w = .ok ⟨w.heap.size, 0, none⟩ (w.alloc (.cells v.cells t)) := rfl
theorem OpOk.box {t : TypeId} {x : Operand} (es : Nat) (hes : 0 < es) (ho : o.op = .box t x) (hd : ∀ d, o.dst = some d → d < N) {y : PV} (hx : ev T x = y) (hw : whole y = true) : OpOk P N o T H n (.op n 0 0) (setH H n ⟨0, es, 0, cellsPV y⟩) (n + 1) [] [n] := by
  refine opOk_new hes hd [] 0 (fun c u => ⟨fun h => ⟨u, rfl, h⟩, fun ⟨_, _, h⟩ => h⟩) fun c a T2 hs ht hT _ => ?_
  rw [looks_of ho] at hT
  have hv := ev_rz ht x
  rw [ev_same hT (x := x) (by simp [Op.operands]), hx] at hv
  have hl := cellsPV_rz hv (whole_or hw)
  obtain ⟨h1, h2⟩ := (RzL_iff _ _).1 hl
  refine ⟨.pointer (some ⟨c.w.heap.size, 0, none⟩), c.w.alloc (.cells (a.eval x).cells t), c.w.heap.size, (a.eval x).cells, t, ?_, (Kp.refl _ _).alloc _, Nat.le_refl _, heap_alloc_new _ _, ⟨?_, fun j z hz => ?_⟩, fun c' _ hB hH hφ => ?_⟩
  · simp [execOp, ho, Instr.box, box_run]
  · have : (a.eval x).cells.size = (cellsPV y).length := by simpa using h1
    omega
  · obtain ⟨q, h3, h4⟩ := h2 j z hz
    exact ⟨q, by simpa using h3, h4⟩
  · refine ⟨⟨_, rfl⟩, hB, fun blk hb => ?_⟩
    rw [hH] at hb; injection hb with hb; subst hb
    exact ⟨Nat.le_refl _, fun _ => ⟨hes, by rw [hφ]⟩⟩
def zeroPV (z : Value) : List PV := z.cells.toList.map pvOf
theorem zeroPV_rz (c : Cx) (z : Value) : RzL c (zeroPV z) z.cells.toList := by
  rw [RzL_iff]
  refine ⟨by simp [zeroPV], fun i x hx => ?_⟩
  simp only [zeroPV, List.getElem?_map] at hx
  obtain ⟨u, h1, rfl⟩ := Option.map_eq_some_iff.1 hx
  exact ⟨u, h1, pvOf_rz c u⟩
theorem run_zero {t : TypeId} {z : Value} (hz : (P.info? t).bind (·.zero) = some z) (w : World) : (zeroValue t).run P w = .ok z w := by
  obtain ⟨i, h1, h2⟩ := Option.bind_eq_some_iff.1 hz
  have h4 : (typeInfo t).run P w = .ok i w := by
    unfold typeInfo
    rw [Sem.run_bind]
    show ((match P.info? t with | some i => pure i | none => stuck "no such type" : Sem TypeInfo)).run P w = _
    rw [h1]
    rfl
  unfold zeroValue
  rw [Sem.run_bind, h4]
  simp only [Result.andThen_ok, h2]
  rfl
theorem OpOk.alloc {t : TypeId} (es : Nat) (hes : 0 < es) (ho : o.op = .alloc t) (hd : ∀ d, o.dst = some d → d < N) {z : Value} [hz : TyZ P t z] {ys : List PV} (hy : zeroPV z = ys) : OpOk P N o T H n (.op n 0 0) (setH H n ⟨0, es, 0, ys⟩) (n + 1) [] [n] := by
  subst hy
  refine opOk_new hes hd [] 0 (fun c u => ⟨fun h => ⟨u, rfl, h⟩, fun ⟨_, _, h⟩ => h⟩) fun c a T2 hs ht hT _ => ?_
  obtain ⟨h1, h2⟩ := (RzL_iff _ _).1 (zeroPV_rz c z)
  refine ⟨.pointer (some ⟨c.w.heap.size, 0, none⟩), c.w.alloc (.cells z.cells t), c.w.heap.size, z.cells, t, ?_, (Kp.refl _ _).alloc _, Nat.le_refl _, heap_alloc_new _ _, ⟨?_, fun j x hx => ?_⟩, fun c' _ hB hH hφ => ?_⟩
  · simp [execOp, ho, Instr.alloc, run_zero hz.zero, box_run]
  · have : z.cells.size = (zeroPV z).length := by simpa using h1
    omega
  · obtain ⟨q, h3, h4⟩ := h2 j x hx
    exact ⟨q, by simpa using h3, h4⟩
  · refine ⟨⟨_, rfl⟩, hB, fun blk hb => ?_⟩
    rw [hH] at hb; injection hb with hb; subst hb
    exact ⟨Nat.le_refl _, fun _ => ⟨hes, by rw [hφ]⟩⟩

/-! ### Literals -/
def setAt : List PV → Nat → List PV → List PV
  | cs, _, [] => cs
  | cs, j, y :: ys => setAt (cs.set j y) (j + 1) ys
theorem setAt_rz {c : Cx} : ∀ (ys : List PV) (us : List Value) (cs : List PV) (arr : Array Value) (j i : Nat), RzL c cs arr.toList → RzL c ys us → RzL c (setAt cs (j + i) ys) ((us.zipIdx i).foldl (fun cs (q : Value × Nat) => cs.setIfInBounds (j + q.2) q.1) arr).toList
  | [], us, cs, arr, j, i, h, hu => by
    simp only [RzL] at hu
    subst hu
    exact h
  | y :: ys, us, cs, arr, j, i, h, hu => by
    obtain ⟨u, us', rfl, h1, h2⟩ := hu
    simp only [setAt, List.zipIdx_cons, List.foldl_cons]
    have := setAt_rz ys us' (cs.set (j + i) y) (arr.setIfInBounds (j + i) u) j (i + 1) (by
      rw [RzL_iff] at h ⊢
      refine ⟨by simpa using h.1, fun q x hx => ?_⟩
      rw [List.getElem?_set] at hx
      split at hx
      · rename_i e
        subst e
        split at hx
        · rename_i hlt
          injection hx with hx; subst hx
          have : j + i < arr.size := by have := h.1; simp at this; omega
          exact ⟨u, by simp [this], h1⟩
        · cases hx
      · rename_i e
        obtain ⟨q', h3, h4⟩ := h.2 q x hx
        refine ⟨q', ?_, h4⟩
        simp only [Array.getElem?_toList] at h3 ⊢
        rw [Array.getElem?_setIfInBounds_ne e]
        exact h3) h2
    rwa [show j + i + 1 = j + (i + 1) by omega]
def fillPV (place : Nat → Option (Nat × Nat)) (cells : List PV) : List (Nat × PV) → Option (List PV)
  | [] => some cells
  | (i, v) :: rest =>
    match place i with
    | none => none
    | some (off, size) => if !whole v || (cellsPV v).length ≠ size || off + size > cells.length then none else fillPV place (setAt cells off (cellsPV v)) rest
theorem fill_rz {c : Cx} {place : Nat → Option (Nat × Nat)} : ∀ (ps : List (Nat × PV)) (vs : List (Nat × Value)) (cs : List PV) (arr : Array Value), RzL c cs arr.toList → vs.length = ps.length → (∀ (i : Nat) (p : Nat × PV), ps[i]? = some p → ∃ u, vs[i]? = some (p.1, u) ∧ Rz c p.2 u) →
    ∀ ys, fillPV place cs ps = some ys → ∃ res, Instr.fill place arr vs = some res ∧ RzL c ys res.toList
  | [], vs, cs, arr, h, hl, _, ys, hy => by
    obtain rfl : vs = [] := List.eq_nil_of_length_eq_zero (by simpa using hl)
    simp only [fillPV] at hy
    injection hy with hy; subst hy
    exact ⟨arr, rfl, h⟩
  | (i, p) :: ps, vs, cs, arr, h, hl, hp, ys, hy => by
    cases vs with
    | nil => simp at hl
    | cons v vs =>
      obtain ⟨u, h1, h2⟩ := hp 0 (i, p) rfl
      simp at h1
      subst h1
      simp only [fillPV] at hy
      simp only [Instr.fill]
      cases hpl : place i with
      | none => rw [hpl] at hy; cases hy
      | some q =>
        obtain ⟨off, size⟩ := q
        rw [hpl] at hy
        simp only at hy ⊢
        split at hy
        · cases hy
        · rename_i hc
          simp only [Bool.or_eq_true, Bool.not_eq_true', decide_eq_true_eq, not_or, ne_eq, Decidable.not_not, Nat.not_lt, gt_iff_lt] at hc
          obtain ⟨⟨hw, hsz⟩, hle⟩ := hc
          have hw' : whole p = true := by simpa using hw
          have hcells := cellsPV_rz h2 (whole_or hw')
          have hul : u.cells.size = size := by have := ((RzL_iff _ _).1 hcells).1; simp at this; omega
          have harr : arr.size = cs.length := by simpa using ((RzL_iff _ _).1 h).1
          rw [if_neg (by simp; omega)]
          have := setAt_rz (cellsPV p) u.cells.toList cs arr off 0 h hcells
          refine fill_rz ps vs (setAt cs off (cellsPV p)) _ (by
            rw [← Array.foldl_toList]
            simpa using this) (by simpa using hl) (fun k z hz => by simpa using hp (k + 1) z (by simpa using hz)) ys hy

/-- A struct's fields: where each begins, how many cells it has. -/
class Stc (P : Program) (t : TypeId) (pl : outParam (List (Nat × Nat))) : Prop where
  out : ∃ fs : List Field, P.underlying t = some (.struct fs.toArray) ∧ fs.map (fun f => (P.info? f.type).map fun i => (f.offset, i.size)) = pl.map some
theorem run_mapM_any {α β : Type} {w : World} (f : α → Sem β) : ∀ (l : List α) (us : List β), us.length = l.length → (∀ (i : Nat) (x : α), l[i]? = some x → ∃ u, us[i]? = some u ∧ (f x).run P w = .ok u w) → (l.mapM f).run P w = .ok us w
  | [], us, h, _ => by
    obtain rfl : us = [] := List.eq_nil_of_length_eq_zero (by simpa using h)
    rfl
  | x :: l, us, h, hx => by
    cases us with
    | nil => simp at h
    | cons u us =>
      obtain ⟨u', h1, h2⟩ := hx 0 x rfl
      simp at h1
      subst h1
      have := run_mapM_any f l us (by simpa using h) (fun i y hy => hx (i + 1) y (by simpa using hy))
      rw [List.mapM_cons]
      simp [h2, this]
theorem run_places {t : TypeId} {pl : List (Nat × Nat)} {fs : List Field} (h : fs.map (fun f => (P.info? f.type).map fun i => (f.offset, i.size)) = pl.map some) (w : World) :
    (fs.toArray.mapM fun f => (do pure (f.offset, ← sizeOf f.type) : Sem (Nat × Nat))).run P w = .ok pl.toArray w := by
  rw [List.mapM_toArray]
  show (Sem.bind (fs.mapM _) _).run P w = _
  rw [Sem.run_bind', run_mapM_any (P := P) (w := w) _ fs pl (by have := congrArg List.length h; simpa using this.symm) (fun i f hf => ?_)]
  · rfl
  · have h1 : (fs.map (fun f => (P.info? f.type).map fun i => (f.offset, i.size)))[i]? = (pl.map some)[i]? := by rw [h]
    rw [List.getElem?_map, List.getElem?_map, hf] at h1
    simp only [Option.map_some] at h1
    cases hp : pl[i]? with
    | none => rw [hp] at h1; cases h1
    | some q =>
      rw [hp] at h1
      simp only [Option.map_some, Option.some.injEq] at h1
      obtain ⟨ti, h2, h3⟩ := Option.map_eq_some_iff.1 h1
      refine ⟨q, rfl, ?_⟩
      have h4 : (typeInfo f.type).run P w = .ok ti w := by
        unfold typeInfo
        rw [Sem.run_bind]
        show ((match P.info? f.type with | some i => pure i | none => stuck "no such type" : Sem TypeInfo)).run P w = _
        rw [h2]
        rfl
      rw [← h3]
      unfold sizeOf
      simp [h4]
def partsPV (T : Nat → PV) (ps : List (Nat × Operand)) : List (Nat × PV) := ps.map fun p => (p.1, ev T p.2)
theorem parts_rz {c : Cx} {T2 : Nat → PV} {a : Act} (ht : TSim c T2 a N) {ps : Array (Nat × Operand)} (hT : ∀ t ∈ tmpsOf (ps.toList.map (·.2)), T2 t = T t) :
    (ps.map fun (i, x) => (i, a.eval x)).toList.length = (partsPV T ps.toList).length ∧ ∀ (i : Nat) (p : Nat × PV), (partsPV T ps.toList)[i]? = some p → ∃ u, (ps.map fun (i, x) => (i, a.eval x)).toList[i]? = some (p.1, u) ∧ Rz c p.2 u := by
  refine ⟨by simp [partsPV], fun i p hp => ?_⟩
  simp only [partsPV, List.getElem?_map] at hp
  obtain ⟨q, h1, rfl⟩ := Option.map_eq_some_iff.1 hp
  refine ⟨a.eval q.2, ?_, ?_⟩
  · simp only [Array.toList_map, List.getElem?_map, h1]
    rfl
  · have := ev_rz ht q.2
    rwa [ev_same hT (x := q.2) (List.mem_map.2 ⟨q, List.mem_of_getElem? h1, rfl⟩)] at this
theorem build_runS {t : TypeId} {z : Value} {pl : List (Nat × Nat)} (hz : TyZ P t z) (hs : Stc P t pl) {ps : Array (Nat × Value)} {res : Array Value} (h : Instr.fill (fun i => pl[i]?) z.cells ps.toList = some res) (w : World) : (Instr.build t ps).run P w = .ok (.agg res) w := by
  obtain ⟨fs, h5, h6⟩ := hs.out
  unfold Instr.build
  rw [Sem.run_bind, run_zero hz.zero]
  simp only [Result.andThen_ok]
  rw [Sem.run_bind, run_und h5]
  simp only [Result.andThen_ok]
  show (Sem.bind (fs.toArray.mapM fun f => (do pure (f.offset, ← sizeOf f.type) : Sem (Nat × Nat))) _).run P w = _
  rw [Sem.run_bind', run_places (t := t) h6 w]
  simp only [Result.andThen_ok, List.getElem?_toArray, h]
  rfl
theorem OpOk.buildS {t : TypeId} {ps : Array (Nat × Operand)} (ho : o.op = .build t ps) (hd : ∀ d, o.dst = some d → d < N) {z : Value} {pl : List (Nat × Nat)} [hz : TyZ P t z] [hs : Stc P t pl] {ys : List PV}
    (hx : fillPV (fun i => pl[i]?) (zeroPV z) (partsPV T ps.toList) = some ys) : OpOk P N o T H n (.agg ys) H n [] [] := by
  refine OpOk.quiet [] hd fun c a T2 hsm ht hT _ => ?_
  rw [looks_of ho] at hT
  obtain ⟨h1, h2⟩ := parts_rz (T := T) ht (ps := ps) (by simpa [Op.operands] using hT)
  obtain ⟨res, h3, h4⟩ := fill_rz _ _ _ _ (zeroPV_rz c z) h1 h2 ys hx
  refine ⟨.agg res, ?_, res, rfl, h4⟩
  unfold execOp
  rw [ho]
  simp only
  rw [Sem.run_bind, build_runS hz hs h3]
  rfl
theorem build_runA {t : TypeId} {z : Value} {m : Nat} {e : TypeId} {s1 b1 : Nat} (h1 : Ty P t (.array m e) s1 b1) {d : TypeDesc} {s b : Nat} (hz : TyZ P t z) (h2 : Ty P e d s b) {ps : Array (Nat × Value)} {res : Array Value} (h : Instr.fill (fun i => some (i * s, s)) z.cells ps.toList = some res) (w : World) : (Instr.build t ps).run P w = .ok (.agg res) w := by
  unfold Instr.build
  rw [Sem.run_bind, run_zero hz.zero]
  simp only [Result.andThen_ok]
  rw [Sem.run_bind, run_und h1.und]
  simp only [Result.andThen_ok]
  rw [Sem.run_bind, h2.size']
  simp only [Result.andThen_ok, h]
  rfl
theorem OpOk.buildA {t : TypeId} {ps : Array (Nat × Operand)} (ho : o.op = .build t ps) (hd : ∀ d, o.dst = some d → d < N) {z : Value} {m : Nat} {e : TypeId} {s1 b1 : Nat} [h1 : Ty P t (.array m e) s1 b1] {d : TypeDesc} {s b : Nat} [hz : TyZ P t z] [h2 : Ty P e d s b] {ys : List PV}
    (hx : fillPV (fun i => some (i * s, s)) (zeroPV z) (partsPV T ps.toList) = some ys) : OpOk P N o T H n (.agg ys) H n [] [] := by
  refine OpOk.quiet [] hd fun c a T2 hsm ht hT _ => ?_
  rw [looks_of ho] at hT
  obtain ⟨h5, h6⟩ := parts_rz (T := T) ht (ps := ps) (by simpa [Op.operands] using hT)
  obtain ⟨res, h3, h4⟩ := fill_rz _ _ _ _ (zeroPV_rz c z) h5 h6 ys hx
  refine ⟨.agg res, ?_, res, rfl, h4⟩
  unfold execOp
  rw [ho]
  simp only
  rw [Sem.run_bind, build_runA h1 hz h2 h3]
  rfl
/-- Noughts. -/
def zerosPV (z : Value) (s len : Nat) : List PV := (List.range (len * s)).map fun i => (zeroPV z).getD (i % s) .junk
theorem zeros_rz (c : Cx) {z : Value} {s : Nat} (hz : z.cells.size = s) (len : Nat) (hs : 0 < s) : RzL c (zerosPV z s len) ((Array.range (len * s)).map (z.cells[· % z.cells.size]!)).toList := by
  rw [RzL_iff]
  refine ⟨by simp [zerosPV], fun i x hx => ?_⟩
  simp only [zerosPV, List.getElem?_map] at hx
  obtain ⟨j, h1, rfl⟩ := Option.map_eq_some_iff.1 hx
  have hj : i = j ∧ i < len * s := by
    rw [List.getElem?_eq_some_iff] at h1
    obtain ⟨h2, h3⟩ := h1
    simp at h2 h3
    exact ⟨h3, h2⟩
  obtain ⟨rfl, hi⟩ := hj
  have hlt : i % s < z.cells.size := by rw [hz]; exact Nat.mod_lt _ hs
  obtain ⟨h4, h5⟩ := (RzL_iff _ _).1 (zeroPV_rz c z)
  have hlt2 : i % s < (zeroPV z).length := by rw [← h4]; simpa using hlt
  obtain ⟨u, h6, h7⟩ := h5 (i % s) _ (List.getElem?_eq_getElem hlt2)
  refine ⟨u, ?_, by rw [List.getD_eq_getElem?_getD, List.getElem?_eq_getElem hlt2]; exact h7⟩
  have h8 : z.cells[i % s]! = u := by
    simp only [Array.getElem?_toList] at h6
    rw [getElem!_pos z.cells (i % s) hlt]
    rw [Array.getElem?_eq_getElem hlt] at h6
    injection h6
  have h9 : (List.range (len * s))[i]? = some i := h1
  simp only [Array.toList_map, List.getElem?_map, Array.toList_range, h9, Option.map_some, hz]
  rw [h8]
theorem buildSlice_run' {t : TypeId} {len : Nat} {z : Value} {e : TypeId} {s1 b1 : Nat} (h1 : Ty P t (.slice e) s1 b1) {d : TypeDesc} {s b : Nat} (hz : TyZ P e z) (h2 : Ty P e d s b) (hl : len * s ≤ 16777216) {ps : Array (Nat × Value)} {res : Array Value}
    (h : Instr.fill (fun i => some (i * s, s)) ((Array.range (len * s)).map ((if len * s = 0 then #[] else z.cells)[· % (if len * s = 0 then #[] else z.cells).size]!)) ps.toList = some res) (w : World) :
    (Instr.buildSlice t len ps).run P w = .ok (.slice (some ⟨w.heap.size, 0, none⟩) len len) (w.alloc (.cells res e)) := by
  have hnl : ¬ len * s > 2 ^ 24 := by omega
  unfold Instr.buildSlice
  rw [Sem.run_bind, run_und h1.und]
  simp only [Result.andThen_ok]
  rw [Sem.run_bind, h2.size']
  simp only [Result.andThen_ok, if_neg hnl]
  by_cases h0 : len * s = 0
  · simp only [h0, if_pos] at h ⊢
    show (Sem.bind (pure #[]) _).run P w = _
    simp only [Sem.bind, pure]
    rw [h]
    rfl
  · simp only [h0, if_neg, if_false] at h ⊢
    rw [Sem.run_bind, run_zero hz.zero]
    simp only [Result.andThen_ok]
    show (Sem.bind (pure z.cells) _).run P w = _
    simp only [Sem.bind, pure]
    rw [h]
    rfl
theorem buildSlice_run {t : TypeId} {ps : Array (Nat × Operand)} {len : Nat} (ho : o.op = .buildSlice t len ps) {z : Value} {e : TypeId} {s1 b1 : Nat} (h1 : Ty P t (.slice e) s1 b1) {d : TypeDesc} {s b : Nat} (hz : TyZ P e z) (h2 : Ty P e d s b) (hzs : z.cells.size = s) (h0 : 0 < s) (hl : len * s ≤ 16777216) {ys : List PV}
    (hx : fillPV (fun i => some (i * s, s)) (zerosPV z s len) (partsPV T ps.toList) = some ys) {c : Cx} {a : Act} {T2 : Nat → PV} (ht : TSim c T2 a N) (hT : ∀ t ∈ looks o, T2 t = T t) :
    ∃ res : Array Value, (execOp a.eval o).run P c.w = .ok (.value (.slice (some ⟨c.w.heap.size, 0, none⟩) len len)) (c.w.alloc (.cells res e)) ∧ RzL c ys res.toList := by
  rw [looks_of ho] at hT
  obtain ⟨h5, h6⟩ := parts_rz (T := T) ht (ps := ps) (by simpa [Op.operands] using hT)
  have hzero : RzL c (zerosPV z s len) ((Array.range (len * s)).map ((if len * s = 0 then #[] else z.cells)[· % (if len * s = 0 then #[] else z.cells).size]!)).toList := by
    by_cases h : len * s = 0
    · rw [h, if_pos rfl]
      simp [zerosPV, h, RzL]
    · rw [if_neg h]
      exact zeros_rz c hzs len h0
  obtain ⟨res, h3, h4⟩ := fill_rz _ _ _ _ hzero h5 h6 ys hx
  refine ⟨res, ?_, h4⟩
  unfold execOp
  rw [ho]
  simp only
  rw [Sem.run_bind, buildSlice_run' h1 hz h2 hl h3]
  rfl
/-- A slice's literal, told as one that is only read. -/
theorem OpOk.buildSlice {t : TypeId} {ps : Array (Nat × Operand)} {len : Nat} (ho : o.op = .buildSlice t len ps) (hd : ∀ d, o.dst = some d → d < N) {z : Value} {e : TypeId} {s1 b1 : Nat} [h1 : Ty P t (.slice e) s1 b1] {d : TypeDesc} {s b : Nat} [hz : TyZ P e z] [h2 : Ty P e d s b] (hzs : z.cells.size = s) (h0 : 0 < s) (hl : len * s ≤ 16777216) {ys : List PV}
    (hx : fillPV (fun i => some (i * s, s)) (zerosPV z s len) (partsPV T ps.toList) = some ys) : OpOk P N o T H n (.ro true len ys) H n [] [] := by
  refine ⟨Nat.le_refl _, fun _ _ => rfl, fun i h1 h2 => by omega, hd, fun c a T2 hs ht hT _ _ K Q hK => ?_⟩
  obtain ⟨res, hr, hy⟩ := buildSlice_run ho h1 hz h2 hzs h0 hl hx ht hT
  have hkp : Kp0 c.w (c.w.alloc (.cells res e)) := (Kp.refl _ _).alloc _
  obtain ⟨he, hs'⟩ := ext_kp hkp hs
  unfold Oper.wp
  rw [hr]
  refine hK { c with w := c.w.alloc (.cells res e) } _ he hs' (fun i => ⟨.inl, fun h => h.elim id fun h => by omega⟩) (over_nil _ _).symm ⟨_, len, rfl, Nat.le_refl _, fun _ => rfl, (by rintro ⟨⟩), .inr ⟨_, _, rfl, ?_⟩⟩
  rw [RzAt_iff]
  intro i x hx'
  obtain ⟨h3, h4⟩ := (RzL_iff _ _).1 hy
  obtain ⟨u, h5, h6⟩ := h4 i x hx'
  refine ⟨u, ?_, ?_, Rz_ext he _ _ h6⟩
  · simp only [Array.getElem?_toList] at h5
    have := heap_alloc_new c.w (.cells res e)
    simp only [World.cell?, this]
    simpa using h5
  · rintro (h | ⟨j, b', hb', h, _⟩)
    · have := hs.Vlt _ _ h; simp at this
    · have := hs.lt hb'
      have h' : (c.φ j).1 = c.w.heap.size := h
      omega
/-- A slice's literal, told as one of the call's own. -/
theorem OpOk.buildSliceOwn {t : TypeId} {ps : Array (Nat × Operand)} {len : Nat} (ho : o.op = .buildSlice t len ps) (hd : ∀ d, o.dst = some d → d < N) {z : Value} {e : TypeId} {s1 b1 : Nat} [h1 : Ty P t (.slice e) s1 b1] {d : TypeDesc} {s b : Nat} [hz : TyZ P e z] [h2 : Ty P e d s b] (hzs : z.cells.size = s) (h0 : 0 < s) (hl : len * s ≤ 16777216) {ys : List PV}
    (hx : fillPV (fun i => some (i * s, s)) (zerosPV z s len) (partsPV T ps.toList) = some ys) (hyl : ys.length = len * s) : OpOk P N o T H n (.os n 0 0 len) (setH H n ⟨0, s, 0, ys⟩) (n + 1) [] [n] := by
  refine opOk_new h0 hd [] 0 (fun c u => ⟨fun h => ⟨u, rfl, h⟩, fun ⟨_, _, h⟩ => h⟩) fun c a T2 hs ht hT _ => ?_
  obtain ⟨res, hr, hy⟩ := buildSlice_run ho h1 hz h2 hzs h0 hl hx ht hT
  obtain ⟨h3, h4⟩ := (RzL_iff _ _).1 hy
  have h3' : res.size = ys.length := by simpa using h3
  refine ⟨_, _, c.w.heap.size, res, e, hr, (Kp.refl _ _).alloc _, Nat.le_refl _, heap_alloc_new _ _, ⟨by omega, fun j x hx => ?_⟩, fun c' hw hB hH hφ => ?_⟩
  · obtain ⟨u, h5, h6⟩ := h4 j x hx
    exact ⟨u, by simpa using h5, h6⟩
  · refine ⟨⟨_, _, _, rfl⟩, hB, fun blk hb => ?_⟩
    rw [hH] at hb; injection hb with hb; subst hb
    refine ⟨Nat.le_refl _, fun _ => ⟨h0, _, len, rfl, Nat.le_refl _, .inr (by rw [hφ]), ?_⟩⟩
    have := heap_alloc_new c.w (.cells res e)
    rw [hφ, hw]
    simp only [msize, this]
    omega
end
end Go.Proofs.Ythnjhhohfhnhgaa
