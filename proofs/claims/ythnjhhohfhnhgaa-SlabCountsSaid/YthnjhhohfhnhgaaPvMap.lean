/- The logic of pure values: maps. -/
import Derived.Test.YthnjhhohfhnhgaaPvLoop
import Derived.MapKept
namespace Go.Proofs.Ythnjhhohfhnhgaa
open Go Go.RowKit

/-! ### Blocks that may be maps -/
/-- A block of its own, in memory that was not there. -/
theorem ext_newL {c : Cx} {w' : World} (hs : HSim c) (hk : Kp0 c.w w') {i k o : Nat} {b : Blk'} (hi : ¬ c.B i) (hk1 : c.w.heap.size ≤ k) (hL : ∀ c', Ext c c' → c'.w = w' → Lies c' w'.heap[k]? o b) :
    Ext c (c.lay w' i (k, o) b) ∧ HSim (c.lay w' i (k, o) b) := by
  have hblk : ∀ k, k < c.w.heap.size → w'.heap[k]? = c.w.heap[k]? := fun k hk' => hk.block k hk' id
  have hne : ∀ j x, j ≠ i → (c.lay w' i (k, o) b).H j = some x → c.H j = some x ∧ (c.lay w' i (k, o) b).φ j = c.φ j := fun j x hj h => by
    refine ⟨?_, by simp [Cx.lay, hj]⟩
    have : (c.lay w' i (k, o) b).H j = c.H j := setH_ne _ _ hj
    rwa [this] at h
  have hself : (c.lay w' i (k, o) b).φ i = (k, o) := by simp [Cx.lay]
  have he : Ext c (c.lay w' i (k, o) b) := by
    refine ⟨hk.os, hk.tape, hk.output, hk.size, rfl, fun _ h => .inl h, fun m hm _ => hblk m hm, fun j x hx q _ => ?_, fun j x hx => ?_, fun j x hB hx => ?_⟩
    · show w'.cell? _ = _
      simp only [World.cell?, hblk _ (hs.lt hx)]
    · by_cases hj : j = i
      · subst hj; rw [hself]; exact .inr hk1
      · obtain ⟨h1, h2⟩ := hne j x hj hx
        exact .inl ⟨x, h1, by rw [h2], by rw [h2]; exact Nat.le_refl _⟩
    · by_cases hj : j = i
      · subst hj; exact absurd hB hi
      · obtain ⟨h1, h2⟩ := hne j x hj hx
        refine ⟨x, h1, Nat.le_refl _, fun _ => ⟨h2, rfl, ?_⟩⟩
        show msize c.w _ ≤ msize w' _
        simp only [msize, hblk _ (hs.lt h1)]
        exact Nat.le_refl _
  refine ⟨he, fun j x hx => ?_, fun j x hx => ?_, fun j1 j2 x y hx hy e => ?_, fun m q h => Nat.lt_of_lt_of_le (hs.Vlt m q h) hk.size, fun j x hx q hq => ?_⟩
  · by_cases hj : j = i
    · exact .inr hj
    · exact .inl (hs.born j x (hne j x hj hx).1)
  · by_cases hj : j = i
    · subst hj
      have hx' : b = x := by
        have : (c.lay w' j (k, o) b).H j = some b := setH_same _ _ _
        rw [this] at hx; injection hx
      subst hx'
      rw [hself]
      exact hL _ he rfl
    · obtain ⟨h1, h2⟩ := hne j x hj hx
      have h3 := (hs.blk j x h1).ext he
      rw [← hblk _ (hs.lt h1)] at h3
      rw [h2]
      exact h3
  · by_cases h1 : j1 = i
    · subst h1
      by_cases h2 : j2 = j1
      · exact h2.symm
      · obtain ⟨h3, h4⟩ := hne j2 y h2 hy
        rw [hself, h4] at e
        have := hs.lt h3
        simp only at e
        omega
    · obtain ⟨h3, h4⟩ := hne j1 x h1 hx
      by_cases h2 : j2 = i
      · subst h2
        rw [hself, h4] at e
        have := hs.lt h3
        simp only at e
        omega
      · obtain ⟨h5, h6⟩ := hne j2 y h2 hy
        rw [h4, h6] at e
        exact hs.inj j1 j2 x y h3 h5 e
  · by_cases hj : j = i
    · subst hj
      rw [hself]
      intro h
      have := hs.Vlt _ _ h
      simp only at this
      omega
    · obtain ⟨h1, h2⟩ := hne j x hj hx
      rw [h2] at hq ⊢
      exact hs.Vown j x h1 q hq
/-- A block of its own is turned where it lies. -/
theorem ext_turnL {c : Cx} {w' : World} (hs : HSim c) {i : Nat} {old b : Blk'} (hi : c.H i = some old) (hk : Kp (fun k => k = (c.φ i).1) c.w w') (hms : msize c.w (c.φ i).1 ≤ msize w' (c.φ i).1)
    (hprot : ∀ j, j < (c.φ i).2 + old.lo → w'.cell? ⟨(c.φ i).1, j, none⟩ = c.w.cell? ⟨(c.φ i).1, j, none⟩) (hlo : old.lo ≤ b.lo) (hg : old.gen = b.gen) (hes : b.es = old.es)
    (hL : ∀ c', Ext c c' → c'.w = w' → Lies c' w'.heap[(c.φ i).1]? (c.φ i).2 b) :
    Ext c (c.lay w' i (c.φ i) b) ∧ HSim (c.lay w' i (c.φ i) b) := by
  have hblk : ∀ k, k < c.w.heap.size → k ≠ (c.φ i).1 → w'.heap[k]? = c.w.heap[k]? := fun k hk' hn => hk.block k hk' hn
  have hφ : ∀ j, (c.lay w' i (c.φ i) b).φ j = c.φ j := fun j => by
    by_cases hj : j = i
    · subst hj; simp [Cx.lay]
    · simp [Cx.lay, hj]
  have hne : ∀ j x, j ≠ i → (c.lay w' i (c.φ i) b).H j = some x → c.H j = some x := fun j x hj h => by
    have : (c.lay w' i (c.φ i) b).H j = c.H j := setH_ne _ _ hj
    rwa [this] at h
  have hself : ∀ x, (c.lay w' i (c.φ i) b).H i = some x → b = x := fun x hx => by
    have : (c.lay w' i (c.φ i) b).H i = some b := setH_same _ _ _
    rw [this] at hx; injection hx
  have hapart : ∀ j x, j ≠ i → c.H j = some x → (c.φ j).1 ≠ (c.φ i).1 := fun j x hj hx e => hj (hs.inj j i x old hx hi e)
  have he : Ext c (c.lay w' i (c.φ i) b) := by
    refine ⟨hk.os, hk.tape, hk.output, hk.size, rfl, fun _ h => .inl h, fun m hm hn => hblk m hm (fun e => hn i old hi e.symm), fun j x hx q hq => ?_, fun j x hx => ?_, fun j x hB hx => ?_⟩
    · show w'.cell? _ = _
      by_cases hj : j = i
      · subst hj
        rw [hi] at hx; injection hx with hx; subst hx
        exact hprot q hq
      · simp only [World.cell?, hblk _ (hs.lt hx) (hapart j x hj hx)]
    · rw [hφ]
      by_cases hj : j = i
      · subst hj
        obtain rfl := hself x hx
        exact .inl ⟨old, hi, rfl, by omega⟩
      · exact .inl ⟨x, hne j x hj hx, rfl, Nat.le_refl _⟩
    · by_cases hj : j = i
      · subst hj
        obtain rfl := hself x hx
        exact ⟨old, hi, Nat.le_of_eq hg, fun _ => ⟨hφ _, hes, hms⟩⟩
      · refine ⟨x, hne j x hj hx, Nat.le_refl _, fun _ => ⟨hφ _, rfl, ?_⟩⟩
        show msize c.w _ ≤ msize w' _
        simp only [msize, hblk _ (hs.lt (hne j x hj hx)) (hapart j x hj (hne j x hj hx))]
        exact Nat.le_refl _
  have hget : ∀ j x, (c.lay w' i (c.φ i) b).H j = some x → ∃ y, c.H j = some y := fun j x hx => by
    by_cases hj : j = i
    · subst hj; exact ⟨old, hi⟩
    · exact ⟨x, hne j x hj hx⟩
  refine ⟨he, fun j x hx => .inl (let ⟨y, hy⟩ := hget j x hx; hs.born j y hy), fun j x hx => ?_, fun j1 j2 x y hx hy e => ?_, fun m q h => Nat.lt_of_lt_of_le (hs.Vlt m q h) hk.size, fun j x hx q hq => ?_⟩
  · rw [hφ]
    by_cases hj : j = i
    · subst hj
      obtain rfl := hself x hx
      exact hL _ he rfl
    · have h1 := hne j x hj hx
      have h3 := (hs.blk j x h1).ext he
      rw [← hblk _ (hs.lt h1) (hapart j x hj h1)] at h3
      exact h3
  · rw [hφ, hφ] at e
    obtain ⟨x', hx'⟩ := hget j1 x hx
    obtain ⟨y', hy'⟩ := hget j2 y hy
    exact hs.inj j1 j2 x' y' hx' hy' e
  · rw [hφ] at hq ⊢
    obtain ⟨y, hy⟩ := hget j x hx
    exact hs.Vown j y hy q hq

/-! ### Keys -/
theorem ba_beq (a b : ByteArray) : (a == b) = decide (a = b) := by
  have h : (a == b) = (a.data == b.data) := rfl
  rw [h]
  by_cases e : a = b
  · subst e; simp
  · rw [decide_eq_false e]
    refine beq_eq_false_iff_ne.2 fun h' => e ?_
    cases a; cases b; simp at h'; rw [h']
def keq : PV → PV → Bool
  | .int _ a, .int _ b => a == b
  | .str a, .str b => a == b
  | _, _ => false
def kKind : TypeDesc → PV → Bool
  | .int k, .int j _ => k == j
  | .string, .str _ => true
  | _, _ => false
def mget (key : PV) : List PV → Option PV
  | k :: v :: l => if keq key k then some v else mget key l
  | _ => none
def mset (key val : PV) : List PV → List PV
  | k :: v :: l => if keq key k then key :: val :: l else k :: v :: mset key val l
  | _ => [key, val]
def keysOk (d : TypeDesc) : List PV → Bool
  | k :: _ :: l => kKind d k && keysOk d l
  | [] => true
  | [_] => false
theorem entL_append (l l' : List MapEntry) : entL (l ++ l') = entL l ++ entL l' := by
  induction l with
  | nil => rfl
  | cons e l ih => simp [entL, ih]
theorem sameNow_keq {c : Cx} {d : TypeDesc} {x y : PV} {u v : Value} (hx : kKind d x = true) (hy : kKind d y = true) (hu : Rz c x u) (hv : Rz c y v) : Instr.sameNow d u v = some (keq x y) := by
  cases d <;> simp only [kKind, Bool.false_eq_true] at hx hy
  case int k =>
    cases x <;> simp only [Bool.false_eq_true] at hx
    cases y <;> simp only [Bool.false_eq_true] at hy
    simp only [Rz] at hu hv
    rename_i k1 n1 k2 n2
    have h1 : k = k1 := by simpa using hx
    have h2 : k = k2 := by simpa using hy
    subst h1; subst h2; subst hu; subst hv
    simp [Instr.sameNow, keq]
  case string =>
    cases x <;> simp only [Bool.false_eq_true] at hx
    cases y <;> simp only [Bool.false_eq_true] at hy
    simp only [Rz] at hu hv
    subst hu; subst hv
    simp [Instr.sameNow, keq]
/-- Where a key is found. -/
theorem find_map {c : Cx} {d : TypeDesc} {key : PV} {kv : Value} (hk : kKind d key = true) (hkv : Rz c key kv) : ∀ (cells : List PV) (es : List MapEntry) (i : Nat), keysOk d cells = true → RzL c cells (entL es) →
    (Instr.findNow d kv es i = some none ∧ mget key cells = none ∧ ∀ val, mset key val cells = cells ++ [key, val]) ∨
    (∃ j e pv, Instr.findNow d kv es i = some (some (i + j, e.val)) ∧ es[j]? = some e ∧ e.key = kv ∧ mget key cells = some pv ∧ Rz c pv e.val ∧
      ∀ (c' : Cx) (val : PV) (vv : Value) (e' : MapEntry), (∀ x v, Rz c x v → Rz c' x v) → Rz c' val vv → e'.key = kv → e'.val = vv → RzL c' (mset key val cells) (entL (es.set j e'))) ∨ False
  | [], es, i, _, hl => by
    cases es with
    | nil => exact .inl ⟨rfl, rfl, fun _ => rfl⟩
    | cons e es => simp [entL, RzL] at hl
  | [x], _, _, h, _ => by simp [keysOk] at h
  | k :: v :: cells, es, i, h, hl => by
    cases es with
    | nil => obtain ⟨_, _, h1, _⟩ := hl; simp [entL] at h1
    | cons e es =>
      obtain ⟨ek, r1, e1, hek, r2⟩ := hl
      obtain ⟨ev, r3, e2, hev, r4⟩ := r2
      simp only [entL] at e1
      injection e1 with e1 e3
      subst e1
      rw [← e3] at e2
      injection e2 with e2 e4
      subst e2; subst e4
      simp only [keysOk, Bool.and_eq_true] at h
      have hs := sameNow_keq hk h.1 hkv hek
      simp only [Instr.findNow, hs]
      by_cases hq : keq key k = true
      · simp only [mget, mset, hq, if_true]
        have hkk : e.key = kv := by
          cases key <;> cases k <;> simp only [keq, Bool.false_eq_true] at hq
          · simp only [Rz] at hkv hek
            have : _ = _ := beq_iff_eq.1 hq
            subst this
            cases d <;> simp only [kKind, Bool.false_eq_true] at hk h
            have h1 := beq_iff_eq.1 hk
            have h2 := beq_iff_eq.1 h.1
            rw [hek, hkv, ← h1, ← h2]
          · simp only [Rz] at hkv hek
            rw [ba_beq] at hq
            have := of_decide_eq_true hq
            subst this
            rw [hek, hkv]
        refine .inr (.inl ⟨0, e, v, rfl, rfl, hkk, rfl, hev, fun c' val vv e' hc hval hk' hv' => ?_⟩)
        refine ⟨kv, vv :: entL es, by simp [entL, hk', hv'], hc _ _ hkv, vv, entL es, rfl, hval, ?_⟩
        have key2 : ∀ (xs : List PV) (vs : List Value), RzL c xs vs → RzL c' xs vs := by
          intro xs
          induction xs with
          | nil => intro vs h; exact h
          | cons x xs ih =>
            rintro vs ⟨u, us, rfl, h1, h2⟩
            exact ⟨u, us, rfl, hc _ _ h1, ih us h2⟩
        exact key2 _ _ r4
      · have hq' : keq key k = false := by simpa using hq
        simp only [mget, mset, hq', Bool.false_eq_true, if_false]
        rcases find_map hk hkv cells es (i + 1) h.2 r4 with ⟨h1, h2, h3⟩ | ⟨j, e', pv, h1, h2, h3, h4, h5, h6⟩ | h
        · exact .inl ⟨h1, h2, fun val => by rw [h3]; rfl⟩
        · refine .inr (.inl ⟨j + 1, e', pv, by rw [h1]; simp; omega, by simpa using h2, h3, h4, h5, fun c' val vv e2 hc hval hk' hv' => ?_⟩)
          exact ⟨e.key, _, by simp [entL], hc _ _ hek, e.val, _, rfl, hc _ _ hev, h6 c' val vv e2 hc hval hk' hv'⟩
        · exact h.elim

section
variable {P : Program} {N : Nat} {o : Oper} {T : Nat → PV} {H : Nat → Option Blk'} {n : Nat} {v : PV} {R : List Nat}
theorem oMakeMap {t : TypeId} (ho : o.op = .makeMap t none) (hN : dstB o.dst N = true) : OpOk P N o T H n (.mp n 0) (setH H n ⟨0, 0, 0, []⟩) (n + 1) [] [n] := by
  refine ⟨Nat.le_succ n, fun i hi => setH_ne _ _ (by simpa using hi), fun i h1 h2 => by simp; omega, dst_of hN, fun c a T2 hs ht hT hH hB K Q hK => ?_⟩
  have hnB : ¬ c.B n := hB n (Nat.le_refl _) (Nat.lt_succ_self n)
  have hnew : (c.w.alloc (.map #[] 0)).heap[c.w.heap.size]? = some (.map #[] 0) := World.alloc_heap_new _ _
  obtain ⟨he, hs'⟩ := ext_newL hs ((Kp.refl (fun _ => False) c.w).alloc (.map #[] 0)) (i := n) (k := c.w.heap.size) (o := 0) (b := ⟨0, 0, 0, []⟩) hnB (Nat.le_refl _) (fun c' _ _ => .inr ⟨⟨rfl, rfl⟩, #[], 0, hnew, ⟨by simp, by simp⟩, by simp [entL, RzL]⟩)
  unfold Oper.wp
  have hr : (execOp a.eval o).run P c.w = .ok (.value (.map (some c.w.heap.size))) (c.w.alloc (.map #[] 0)) := by
    simp [execOp, ho, run_makeMap]
  rw [hr]
  refine hK (c.lay (c.w.alloc (.map #[] 0)) n (c.w.heap.size, 0) ⟨0, 0, 0, []⟩) _ he hs' (fun i => ?_) (by rw [over_setH]; rfl) ⟨⟨_, rfl⟩, .inr rfl, fun blk hb => ?_⟩
  · show (c.B i ∨ i = n) ↔ _
    constructor
    · rintro (h | h)
      · exact .inl h
      · exact .inr (by omega)
    · rintro (h | h)
      · exact .inl h
      · exact .inr (by omega)
  · have : (c.lay (c.w.alloc (.map #[] 0)) n (c.w.heap.size, 0) ⟨0, 0, 0, []⟩).H n = some ⟨0, 0, 0, []⟩ := setH_same _ _ _
    rw [this] at hb; injection hb with hb; subst hb
    exact ⟨Nat.le_refl _, fun _ => ⟨rfl, by simp [Cx.lay]⟩⟩
theorem isKey_of {c : Cx} {d : TypeDesc} {key : PV} {kv : Value} (hk : kKind d key = true) (hv : Rz c key kv) : MapKept.IsKey d kv := by
  cases d <;> simp only [kKind, Bool.false_eq_true] at hk
  all_goals cases key <;> simp only [Bool.false_eq_true] at hk
  all_goals simp only [Rz] at hv; subst hv
  · have := beq_iff_eq.1 hk
    simp [MapKept.IsKey, this]
  · simp [MapKept.IsKey]
theorem mapUpd_run {t kt et : TypeId} {d : TypeDesc} (hu : P.underlying t = some (.map kt et)) (hk : P.underlying kt = some d) {w : World} {r : Nat} {es : Array MapEntry} {cl : Nat} (hb : w.heap[r]? = some (.map es cl)) {kv vv : Value} (hkey : MapKept.IsKey d kv)
    {q : Option (Nat × Value)} (hq : Instr.findNow d kv es.toList 0 = some q) (hqe : ∀ j u, q = some (j, u) → ∃ e, es[j]? = some e ∧ e.key = kv) :
    (Instr.mapUpdate t (.map (some r)) kv vv).run P w = .ok () (w.putObj r (match q with | some (j, _) => .map (es.modify j fun e => { e with key := kv, val := vv }) cl | none => .map (es.push { key := kv, val := vv, born := cl }) (cl + 1))) := by
  have hc : (Instr.checkKey false 10000 kt kv).run P w = .ok () w := MapKept.run_checkKey hk hkey false 9999
  cases q with
  | none => simp [Instr.mapUpdate, run_underlying hu, MapKept.run_getObj_map hb, hc, MapKept.run_findKey hk hq, MapKept.run_setObj_map _ hb, Result.andThen, World.putObj]
  | some p =>
    obtain ⟨j, u⟩ := p
    obtain ⟨e, h1, h2⟩ := hqe j u rfl
    have h3 : (Instr.keyThatStays e.key kv).run P w = .ok kv w := by rw [h2]; exact MapKept.run_keyThatStays hkey
    simp [Instr.mapUpdate, run_underlying hu, MapKept.run_getObj_map hb, hc, MapKept.run_findKey hk hq, h1, h3, MapKept.run_setObj_map _ hb, Result.andThen, World.putObj]
theorem oMapUpdate {t : TypeId} {x y z : Operand} (ho : o.op = .mapUpdate t x y z ∨ o.op = .insert t x y z) (hN : dstB o.dst N = true) {kt et : TypeId} {s1 b1 : Nat} [h1 : Ty P t (.map kt et) s1 b1] {d : TypeDesc} {s2 b2 : Nat} [h2 : Ty P kt d s2 b2]
    {i g : Nat} {blk : Blk'} {key val : PV} (hx : ev T x = .mp i g) (hb : H i = some blk) (hg : g = blk.gen) (hy : ev T y = key) (hz : ev T z = val) (hk : kKind d key = true) (hks : keysOk d blk.cells = true) {cs : List PV} (hcs : mset key val blk.cells = cs) :
    OpOk P N o T H n .junk (setH H i ⟨blk.gen, blk.es, blk.lo, cs⟩) n [] [i] := by
  refine ⟨Nat.le_refl n, fun j hj => setH_ne _ _ (by simpa using hj), fun j h1 h2 => by omega, dst_of hN, fun c a T2 hs hts hT hH hB K Q hK => ?_⟩
  have hT' : ∀ t' ∈ tmpsOf [x, y, z], T2 t' = T t' := by
    rcases ho with ho | ho <;> (rw [looks_of ho] at hT; simpa [Op.operands] using hT)
  have hxv := ev_rz hts x
  have hyv := ev_rz hts y
  have hzv := ev_rz hts z
  rw [ev_same hT' (x := x) (by simp), hx] at hxv
  rw [ev_same hT' (x := y) (by simp), hy] at hyv
  rw [ev_same hT' (x := z) (by simp), hz] at hzv
  have hcb : c.H i = some blk := (hH i (.inr (by simp))).trans hb
  obtain ⟨hes0, ex⟩ := (hxv.2.2 blk hcb).2 hg
  rcases hs.blk i blk hcb with ⟨h0, _⟩ | ⟨hoff, es, cl, ho', hwf, hl⟩
  · omega
  have hlt := (Array.getElem?_eq_some_iff.1 ho').1
  have hkey := isKey_of hk hyv
  have hex : (∀ w' , (Instr.mapUpdate t (.map (some (c.φ i).1)) (a.eval y) (a.eval z)).run P c.w = .ok () w' → (execOp a.eval o).run P c.w = .ok .skip w') := by
    intro w' hr
    rcases ho with ho | ho <;> simp [execOp, ho, ex, hr]
  have fin : ∀ es' cl', (Instr.mapUpdate t (.map (some (c.φ i).1)) (a.eval y) (a.eval z)).run P c.w = .ok () (c.w.putObj (c.φ i).1 (.map es' cl')) → MWf es' cl' → (∀ c', Ext c c' → RzL c' cs (entL es'.toList)) → o.wp P a c.w K Q := by
    intro es' cl' hr hw' hl'
    have hself : (c.w.putObj (c.φ i).1 (.map es' cl')).heap[(c.φ i).1]? = some (.map es' cl') := World.putObj_heap_same hlt
    obtain ⟨he, hs'⟩ := ext_turnL (w' := c.w.putObj (c.φ i).1 (.map es' cl')) (b := ⟨blk.gen, blk.es, blk.lo, cs⟩) hs hcb ⟨rfl, rfl, rfl, by simp, fun k _ hk => World.putObj_heap_other hk⟩ (by simp [msize, ho'])
      (fun j _ => by simp [World.cell?, ho', hself]) (Nat.le_refl _) rfl rfl (fun c' he _ => .inr ⟨hoff, es', cl', hself, hw', hl' c' he⟩)
    unfold Oper.wp
    rw [hex _ hr]
    refine hK _ undef he hs' (fun j => ?_) (by rw [over_setH]; rfl) trivial
    show (c.B j ∨ j = i) ↔ _
    constructor
    · rintro (h | rfl)
      · exact .inl h
      · exact .inl (hs.born _ _ hcb)
    · rintro (h | h)
      · exact .inl h
      · omega
  rcases find_map hk hyv blk.cells es.toList 0 hks hl with ⟨h3, _, h4⟩ | ⟨j, e, pv, h3, h4, h5, _, _, h6⟩ | h
  · refine fin _ _ (mapUpd_run h1.und h2.und ho' hkey h3 (fun _ _ h => by cases h)) ⟨?_, ?_⟩ fun c' he => ?_
    · simp only [Array.toList_push, List.map_append, List.map_cons, List.map_nil]
      refine List.nodup_append.2 ⟨hwf.1, by simp, fun x hx y hy e => ?_⟩
      simp at hy
      obtain ⟨e', he', rfl⟩ := List.mem_map.1 hx
      have := hwf.2 e' he'
      omega
    · intro e he
      simp only [Array.toList_push, List.mem_append, List.mem_singleton] at he
      rcases he with he | rfl
      · have := hwf.2 e he; omega
      · exact Nat.lt_succ_self _
    rw [← hcs, h4]
    simp only [Array.toList_push, entL_append]
    exact RzL_append (RzL_ext he _ _ hl) ⟨_, _, rfl, Rz_ext he _ _ hyv, _, _, rfl, Rz_ext he _ _ hzv, rfl⟩
  · rw [Nat.zero_add] at h3
    have h4' : es[j]? = some e := by simpa using h4
    have e2 : (es.modify j fun e => { e with key := a.eval y, val := a.eval z }).toList = es.toList.set j { e with key := a.eval y, val := a.eval z } := by
      rw [Array.toList_modify]
      apply List.ext_getElem?
      intro q
      rw [List.getElem?_modify, List.getElem?_set]
      by_cases hq : j = q
      · subst hq
        have hjl := (List.getElem?_eq_some_iff.1 h4).1
        simp [h4']
        exact (Array.getElem?_eq_some_iff.1 h4').1
      · simp [hq]
    refine fin _ _ (mapUpd_run h1.und h2.und ho' hkey h3 (fun j' u h => by injection h with h; injection h with h h'; subst h; exact ⟨e, h4', h5⟩)) ?_ fun c' he => ?_
    · have hm : (es.toList.set j { e with key := a.eval y, val := a.eval z }).map (·.born) = es.toList.map (·.born) := by
        rw [List.map_set]
        apply List.ext_getElem?
        intro q
        rw [List.getElem?_set]
        by_cases hq : j = q
        · subst hq
          simp [h4']
          exact (Array.getElem?_eq_some_iff.1 h4').1
        · simp [hq]
      refine ⟨by rw [e2, hm]; exact hwf.1, fun e' he' => ?_⟩
      rw [e2] at he'
      have h7 : e'.born ∈ (es.toList.set j { e with key := a.eval y, val := a.eval z }).map (·.born) := List.mem_map.2 ⟨e', he', rfl⟩
      rw [hm] at h7
      obtain ⟨e'', h8, h9⟩ := List.mem_map.1 h7
      rw [← h9]
      exact hwf.2 e'' h8
    rw [← hcs]
    have := h6 c' val (a.eval z) { e with key := a.eval y, val := a.eval z } (fun x v => Rz_ext he x v) (Rz_ext he _ _ hzv) rfl rfl
    rw [e2]
    exact this
  · exact h.elim
/-- The cells of a map. -/
def mapOf (H : Nat → Option Blk') : PV → Option (List PV × List Nat)
  | .rm xs => some (xs, [])
  | .mp b g => match H b with
    | some blk => if g = blk.gen then some (blk.cells, [b]) else none
    | none => none
  | _ => none
theorem mapOf_lies {c : Cx} {p : PV} {u : Value} {xs : List PV} (hs : HSim c) (h : mapOf H p = some (xs, R)) (hH : ∀ i ∈ R, c.H i = H i) (hv : Rz c p u) : ∃ r es cl, u = .map (some r) ∧ c.w.heap[r]? = some (.map es cl) ∧ RzL c xs (entL es.toList) := by
  cases p <;> simp only [mapOf] at h <;> try (cases h; done)
  case rm ys =>
    injection h with h; injection h with h1 h2; subst h1
    obtain ⟨k, es, cl, e, h3, _, _, h4⟩ := hv
    exact ⟨k, es, cl, e, h3, h4⟩
  case mp b g =>
    split at h
    · rename_i blk hb
      split at h
      · rename_i hg
        injection h with h; injection h with h1 h2; subst h1; subst h2
        have hcb : c.H b = some blk := (hH b (by simp)).trans hb
        obtain ⟨hes0, e⟩ := (hv.2.2 blk hcb).2 hg
        rcases hs.blk b blk hcb with ⟨h0, _⟩ | ⟨_, es, cl, ho', _, hl⟩
        · omega
        · exact ⟨_, es, cl, e, ho', hl⟩
      · cases h
    · cases h
theorem oLookup {t : TypeId} {x y : Operand} {ok : Bool} (ho : o.op = .lookup t x y ok) (hN : dstB o.dst N = true) {kt et : TypeId} {s1 b1 : Nat} [h1 : Ty P t (.map kt et) s1 b1] {d : TypeDesc} {s2 b2 : Nat} [h2 : Ty P kt d s2 b2] {z : Value} [hz : TyZ P et z]
    {p key : PV} {xs : List PV} (hx : ev T x = p) (hm : mapOf H p = some (xs, R)) (hy : ev T y = key) (hk : kKind d key = true) (hks : keysOk d xs = true) {zp : PV} (hzp : pvOf z = zp)
    (hv : (if ok then .tup [(mget key xs).getD zp, .bool (mget key xs).isSome] else (mget key xs).getD zp) = v) : OpOk P N o T H n v H n R [] := by
  refine OpOk.quiet R (dst_of hN) fun c a T2 hs hts hT hR => ?_
  rw [looks_of ho] at hT
  have hxv := ev_rz hts x
  have hyv := ev_rz hts y
  rw [ev_same hT (x := x) (by simp [Op.operands]), hx] at hxv
  rw [ev_same hT (x := y) (by simp [Op.operands]), hy] at hyv
  obtain ⟨r, es, cl, e, ho', hl⟩ := mapOf_lies hs hm hR hxv
  have hkey := isKey_of hk hyv
  have hc : ∀ b, (Instr.checkKey b 10000 kt (a.eval y)).run P c.w = .ok () c.w := fun b => MapKept.run_checkKey h2.und hkey b 9999
  rcases find_map hk hyv xs es.toList 0 hks hl with ⟨h3, h4, _⟩ | ⟨j, e', pv, h3, h4, h5, h6, h7, _⟩ | h
  · refine ⟨if ok then .tuple #[z, .bool false] else z, ?_, ?_⟩
    · simp [execOp, ho, e, Instr.lookup, run_underlying h1.und, MapKept.run_getObj_map ho', hc, MapKept.run_findKey h2.und h3, Result.andThen, run_zero hz.zero]
    · subst hv
      have hzr : Rz c zp z := by rw [← hzp]; exact pvOf_rz c z
      cases ok <;> simp [h4]
      · exact hzr
      · exact ⟨_, rfl, _, _, rfl, hzr, _, _, rfl, rfl, rfl⟩
  · refine ⟨if ok then .tuple #[e'.val, .bool true] else e'.val, ?_, ?_⟩
    · simp [execOp, ho, e, Instr.lookup, run_underlying h1.und, MapKept.run_getObj_map ho', hc, MapKept.run_findKey h2.und h3, Result.andThen]
    · subst hv
      cases ok <;> simp [h6]
      · exact h7
      · exact ⟨_, rfl, _, _, rfl, h7, _, _, rfl, rfl, rfl⟩
  · exact h.elim
theorem entL_len (l : List MapEntry) : (entL l).length = 2 * l.length := by
  induction l with
  | nil => rfl
  | cons e l ih => simp [entL, ih]; omega
theorem oLenMap {x : Operand} {ts : Array TypeId} {p : PV} {t kt et : TypeId} {s b : Nat} {xs : List PV} (ho : o.op = .call { callee := .builtin .len, args := #[x], argTypes := ts }) (hN : dstB o.dst N = true) (hts' : ts = #[t]) (hx : ev T x = p) [ht : Ty P t (.map kt et) s b] (hm : mapOf H p = some (xs, R)) {m : Nat} (hl : xs.length = 2 * m) : OpOk P N o T H n (.int .i64 m) H n R [] := by
  refine OpOk.quiet R (dst_of hN) fun c a T2 hs hts hT hR => ?_
  rw [looks_of ho] at hT
  have hxv := ev_rz hts x
  rw [ev_same hT (x := x) (by simp [Op.operands, Call.operands]), hx] at hxv
  obtain ⟨r, es, cl, e, ho', hl'⟩ := mapOf_lies hs hm hR hxv
  have h3 := ((RzL_iff _ _).1 hl').1
  rw [entL_len, hl] at h3
  have h4 : es.size = m := by simp at h3; omega
  refine ⟨.int .i64 m, ?_, rfl⟩
  subst hts'
  simp [execOp, ho, resolve, invoke, builtin, e, Builtin.len_, run_und ht.und, MapKept.run_getObj_map ho', Result.andThen, h4, goInt]
end
/-! ### Maps in another context -/
theorem Tr.mp {M : Nat → Nat → Prop} {H : Nat → Option Blk'} {vis : List Nat} {i j g : Nat} (h : M i j) : Tr M H vis (.mp i g) (.mp j g) := by
  rintro a b v hs hH hc hav hvis ⟨h1, h2, h3⟩
  obtain ⟨h4, h5, h6⟩ := hc.blk i j h h2
  refine ⟨h1, h4, fun x hx => ?_⟩
  obtain ⟨y, hy, e1, e2⟩ := h6 x hx
  obtain ⟨h7, h8⟩ := h3 y hy
  rw [e1] at h7 h8
  refine ⟨h7, fun e => ?_⟩
  rw [h5, ← e2]
  exact h8 e
theorem Tr.mpI {ρ : List Nat} {H : Nat → Option Blk'} {vis : List Nat} {i j g : Nat} (h : ρ[j]? = some i) : Tr (inM ρ) H vis (.mp i g) (.mp j g) := .mp h
theorem TrL.set {M : Nat → Nat → Prop} {H : Nat → Option Blk'} {vis : List Nat} {xs ys : List PV} {x y : PV} (h : TrL M H vis xs ys) (hx : Tr M H vis x y) (i : Nat) : TrL M H vis (xs.set i x) (ys.set i y) := by
  refine ⟨by simp [h.1], fun j z hz => ?_⟩
  rw [List.getElem?_set] at hz ⊢
  by_cases e : i = j
  · rw [if_pos e] at hz ⊢
    split at hz
    · rename_i hl
      injection hz with hz; subst hz
      rw [if_pos (by rw [← h.1]; exact hl)]
      exact ⟨y, rfl, hx⟩
    · cases hz
  · rw [if_neg e] at hz ⊢
    exact h.2 j z hz
/-! ### A map that is only read -/
theorem snap_rm {H : Nat → Option Blk'} {vis : List Nat} {xs ys : List PV} (h : SnapL H vis xs ys) : Snap H vis (.rm xs) (.rm ys) := by
  rintro c v V' hs h1 h2 h3 ⟨k, es, cl, e, e1, e2, e3, e4⟩
  refine ⟨k, es, cl, e, e1, fun j => ?_, e3, h.rzl hs h1 h2 h3 e4⟩
  rintro (h4 | ⟨i, b, h5, _⟩)
  · exact h2 k j (e2 j) h4
  · cases h5
instance (xs : List PV) [h : ClL xs] : Cl (.rm xs) := ⟨fun H vis => snap_rm (h.out H vis)⟩
/-- x is y, but for the own map b, which is only read in y. -/
def DropV (b : Nat) (blk : Blk') (x y : PV) : Prop := x = y ∨ (x = .mp b blk.gen ∧ y = .rm blk.cells)
def DropL (b : Nat) (blk : Blk') : List PV → List PV → Prop
  | [], [] => True
  | x :: xs, y :: ys => DropV b blk x y ∧ DropL b blk xs ys
  | _, _ => False
theorem DropL.refl {b : Nat} {blk : Blk'} : ∀ xs, DropL b blk xs xs
  | [] => trivial
  | _ :: xs => ⟨.inl rfl, DropL.refl xs⟩
theorem DropL.get {b : Nat} {blk : Blk'} : ∀ {xs ys : List PV}, DropL b blk xs ys → xs.length = ys.length ∧ ∀ (j : Nat) (y : PV), ys[j]? = some y → ∃ x, xs[j]? = some x ∧ DropV b blk x y
  | [], [], _ => ⟨rfl, by simp⟩
  | x :: xs, y :: ys, h => by
    obtain ⟨h1, h2⟩ := DropL.get h.2
    refine ⟨by simp [h1], fun j z hz => ?_⟩
    cases j with
    | zero => simp at hz; subst hz; exact ⟨x, rfl, h.1⟩
    | succ j => simpa using h2 j z (by simpa using hz)
  | [], _ :: _, h => h.elim
  | _ :: _, [], h => h.elim
/-- **A map of the call's own is from here on only read.** -/
theorem lwp_drop {R0 : Option Nat} {P : Program} {N k0 : Nat} {Q : Exit → LSt → Prop} {TL TL' : List (Nat × PV)} {HL HL' : List (Nat × Blk')} {n : Nat} {cd : Code} (b : Nat) (blk : Blk') (hb : hget HL b = some blk) (hes : blk.es = 0)
    (hT : ∀ p ∈ TL', ∃ q, Lk TL p.1 q ∧ DropV b blk q p.2) (hH : ∀ p ∈ HL', p.1 ≠ b ∧ ∃ b0, hget HL p.1 = some b0 ∧ b0.gen = p.2.gen ∧ b0.es = p.2.es ∧ b0.lo = p.2.lo ∧ DropL b blk b0.cells p.2.cells)
    (h : lwp R0 P N k0 cd Q (St' TL' HL' n)) : lwp R0 P N k0 cd Q (St' TL HL n) := by
  intro m x a hs ts hH0 hB
  let y : Cx := { x with H := hget HL' }
  have hxb : x.H b = some blk := by rw [hH0]; exact hb
  have hsub : ∀ i b', y.H i = some b' → i ≠ b ∧ ∃ b0, x.H i = some b0 ∧ b0.gen = b'.gen ∧ b0.es = b'.es ∧ b0.lo = b'.lo ∧ DropL b blk b0.cells b'.cells := by
    intro i b' hb'
    obtain ⟨p, hp, rfl, rfl⟩ := hget_or HL' i b' hb'
    obtain ⟨h1, b0, h2, h3⟩ := hH p hp
    exact ⟨h1, b0, by rw [hH0]; exact h2, h3⟩
  have he : Ext x y := ⟨rfl, rfl, rfl, Nat.le_refl _, rfl, fun _ h => h, fun _ _ _ => rfl, fun _ _ _ _ _ => rfl,
    fun i b' hb' => by
      obtain ⟨_, b0, h2, _, _, h5, _⟩ := hsub i b' hb'
      exact .inl ⟨b0, h2, rfl, by show (x.φ i).2 + b0.lo ≤ (x.φ i).2 + b'.lo; omega⟩,
    fun i b' _ hb' => by
      obtain ⟨_, b0, h2, h3, h4, _⟩ := hsub i b' hb'
      exact ⟨b0, h2, Nat.le_of_eq h3, fun _ => ⟨rfl, h4.symm, Nat.le_refl _⟩⟩⟩
  have hlb := hs.blk b blk hxb
  have hmp : ∀ u, Rz x (.mp b blk.gen) u → Rz y (.rm blk.cells) u := by
    rintro u ⟨_, _, h3⟩
    obtain ⟨_, e⟩ := (h3 blk hxb).2 rfl
    rcases hlb with ⟨h0, _⟩ | ⟨hoff, es, cl, ho, hwf, hl⟩
    · omega
    · refine ⟨_, es, cl, e, ho, fun j => ?_, hwf, RzL_ext he _ _ hl⟩
      rintro (hV | ⟨i, b', h4, h5, _⟩)
      · exact hs.Vown b blk hxb j (by omega) hV
      · obtain ⟨h6, b0, h7, _⟩ := hsub i b' h4
        exact h6 (hs.inj i b b0 blk h7 hxb h5)
  have hdv : ∀ q v u, DropV b blk q v → Rz x q u → Rz y v u := by
    rintro q v u (rfl | ⟨rfl, rfl⟩) hu
    · exact Rz_ext he _ _ hu
    · exact hmp u hu
  have hsy : HSim y := by
    refine ⟨fun i b' hb' => ?_, fun i b' hb' => ?_, fun i j b1 b2 h1 h2 e => ?_, hs.Vlt, fun i b' hb' => ?_⟩
    · obtain ⟨_, b0, h2, _⟩ := hsub i b' hb'
      exact hs.born i b0 h2
    · obtain ⟨_, b0, h2, h3, h4, h5, h6⟩ := hsub i b' hb'
      obtain ⟨h7, h8⟩ := h6.get
      rcases hs.blk i b0 h2 with ⟨h0, cs, ty, g1, g2, g3⟩ | ⟨h0, es, cl, g1, gw, g2⟩
      · refine .inl ⟨by omega, cs, ty, g1, by rw [← h7]; exact g2, fun j z hz => ?_⟩
        obtain ⟨q, h9, h10⟩ := h8 j z hz
        obtain ⟨u, h11, h12⟩ := g3 j q h9
        exact ⟨u, h11, hdv _ _ _ h10 h12⟩
      · refine .inr ⟨⟨by omega, h0.2⟩, es, cl, g1, gw, ?_⟩
        rw [RzL_iff] at g2 ⊢
        refine ⟨g2.1.trans h7, fun j z hz => ?_⟩
        obtain ⟨q, h9, h10⟩ := h8 j z hz
        obtain ⟨u, h11, h12⟩ := g2.2 j q h9
        exact ⟨u, h11, hdv _ _ _ h10 h12⟩
    · obtain ⟨_, c1, h3, _⟩ := hsub i b1 h1
      obtain ⟨_, c2, h4, _⟩ := hsub j b2 h2
      exact hs.inj i j c1 c2 h3 h4 e
    · obtain ⟨_, b0, h2, _⟩ := hsub i b' hb'
      exact hs.Vown i b0 h2
  have hty : TSim y (tget TL') a N := by
    refine ⟨ts.size, fun i => ?_⟩
    rcases tget_or TL' i with h1 | ⟨p, hp, rfl, h2⟩
    · rw [h1]; simp [Rz]
    · obtain ⟨q, h3, h4⟩ := hT p hp
      rw [h2]
      refine hdv q _ _ h4 ?_
      rw [← show tget TL p.1 = q from h3]
      exact ts.at_ p.1
  have hR : ReachK P N k0 x a (tget TL') (hget HL') n y a := ⟨he.toK k0, hsy, hty, rfl, hB, .same rfl⟩
  refine wpIn_mono (h m y a hsy hty rfl hB) ?_
  rintro e a' w' ⟨s', x', hq, h1, hR2⟩
  exact ⟨s', x', hq, h1, hR.trans hR2 hs⟩
end Go.Proofs.Ythnjhhohfhnhgaa
