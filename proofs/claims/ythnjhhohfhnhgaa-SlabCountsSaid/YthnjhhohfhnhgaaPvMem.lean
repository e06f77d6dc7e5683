/- The logic of pure values: the operations that look at memory. -/
import Derived.Test.YthnjhhohfhnhgaaPvOps
namespace Go.Proofs.Ythnjhhohfhnhgaa
open Go Go.RowKit

/-- What stands from an address on. -/
def Reads (c : Cx) (k o : Nat) (xs : List PV) : Prop := ∀ (i : Nat) (x : PV), xs[i]? = some x → ∃ u, c.w.cell? ⟨k, o + i, none⟩ = some u ∧ Rz c x u
theorem RzAt.reads {c : Cx} {xs : List PV} {k o : Nat} (h : RzAt c xs k o) : Reads c k o xs := fun i x hx => by
  obtain ⟨u, h1, _, h3⟩ := (RzAt_iff _ _ _).1 h i x hx
  exact ⟨u, h1, h3⟩
theorem Reads.drop {c : Cx} {k o : Nat} {xs : List PV} (h : Reads c k o xs) (m : Nat) : Reads c k (o + m) (xs.drop m) := fun i x hx => by
  rw [List.getElem?_drop] at hx
  obtain ⟨u, h1, h2⟩ := h _ x hx
  exact ⟨u, by rw [Nat.add_assoc]; exact h1, h2⟩
theorem Reads.take {c : Cx} {k o : Nat} {xs : List PV} (h : Reads c k o xs) (m : Nat) : Reads c k o (xs.take m) := fun i x hx => by
  rw [List.getElem?_take] at hx
  split at hx
  · exact h i x hx
  · cases hx
/-- The cells behind a pointer. -/
def cellsAt (H : Nat → Option Blk') : PV → Option (List PV × List Nat)
  | .rp xs => some (xs, [])
  | .op b g off => match H b with
    | some blk => if g = blk.gen then some (blk.cells.drop off, [b]) else none
    | none => none
  | _ => none
theorem cellsAt_reads {H : Nat → Option Blk'} {c : Cx} {p : PV} {v : Value} {xs : List PV} {R : List Nat} (hs : HSim c) (h : cellsAt H p = some (xs, R)) (hH : ∀ i ∈ R, c.H i = H i) (hv : Rz c p v) :
    ∃ a, v = .pointer (some a) ∧ a.spot = none ∧ Reads c a.block a.off xs := by
  cases p <;> simp only [cellsAt] at h <;> try (cases h; done)
  case rp ys =>
    injection h with h; injection h with h1 h2; subst h1
    obtain ⟨a, e, h3, h4⟩ := hv
    exact ⟨a, e, h3, h4.reads⟩
  case op b g off =>
    split at h
    · rename_i blk hb
      split at h
      · rename_i hg
        injection h with h; injection h with h1 h2; subst h1; subst h2
        have hcb : c.H b = some blk := (hH b (by simp)).trans hb
        obtain ⟨hes0, e⟩ := (hv.2.2 blk hcb).2 hg
        refine ⟨_, e, rfl, fun i x hx => ?_⟩
        rw [List.getElem?_drop] at hx
        obtain ⟨u, h4, h5⟩ := own_at' hs hcb hes0 hx
        exact ⟨u, by rw [Nat.add_assoc]; exact h4, h5⟩
      · cases h
    · cases h
/-- The elements of a slice. -/
def elemsOf (H : Nat → Option Blk') : PV → Option (Nat × List PV × List Nat)
  | .nils => some (0, [], [])
  | .ro _ n xs => some (n, xs, [])
  | .os b g off n => match H b with
    | some blk => if g = blk.gen then some (n, (blk.cells.drop off).take (n * blk.es), [b]) else none
    | none => none
  | _ => none
theorem elemsOf_reads {H : Nat → Option Blk'} {c : Cx} {p : PV} {v : Value} {m : Nat} {xs : List PV} {R : List Nat} (hs : HSim c) (h : elemsOf H p = some (m, xs, R)) (hH : ∀ i ∈ R, c.H i = H i) (hv : Rz c p v) :
    ∃ A cap, v = .slice A m cap ∧ m ≤ cap ∧ (A = none → m = 0 ∧ cap = 0) ∧ (xs ≠ [] → ∃ a, A = some a ∧ a.spot = none ∧ Reads c a.block a.off xs) := by
  cases p <;> simp only [elemsOf] at h <;> try (cases h; done)
  case nils =>
    injection h with h; injection h with h1 h2; injection h2 with h2 h3; subst h1; subst h2
    exact ⟨none, 0, hv, Nat.le_refl _, fun _ => ⟨rfl, rfl⟩, fun h => absurd rfl h⟩
  case ro f k ys =>
    injection h with h; injection h with h1 h2; injection h2 with h2 h3; subst h1; subst h2
    obtain ⟨A, cap, e, e1, _, e3, e4⟩ := hv
    refine ⟨A, cap, e, e1, fun h => ⟨by have := e3 h; omega, e3 h⟩, fun hne => ?_⟩
    rcases e4 with e4 | ⟨k', o', rfl, e4⟩
    · exact absurd e4 hne
    · exact ⟨_, rfl, rfl, e4.reads⟩
  case os b g off k =>
    split at h
    · rename_i blk hb
      split at h
      · rename_i hg
        injection h with h; injection h with h1 h2; injection h2 with h2 h3; subst h1; subst h2; subst h3
        have hcb : c.H b = some blk := (hH b (by simp)).trans hb
        obtain ⟨hes0, a, cap, e, e1, e2, e3⟩ := (hv.2.2 blk hcb).2 hg
        refine ⟨some a, cap, e, e1, (by rintro ⟨⟩), fun hne => ?_⟩
        have ha : a = ⟨(c.φ b).1, (c.φ b).2 + off, none⟩ := by
          rcases e2 with e2 | e2
          · exfalso
            obtain rfl : k = 0 := by omega
            exact hne (by simp)
          · exact e2
        subst ha
        refine ⟨_, rfl, rfl, ?_⟩
        refine Reads.take (fun i x hx => ?_) _
        rw [List.getElem?_drop] at hx
        obtain ⟨u, h4, h5⟩ := own_at' hs hcb hes0 hx
        exact ⟨u, by rw [Nat.add_assoc]; exact h4, h5⟩
      · cases h
    · cases h

theorem addr_add {a : Addr} (h : a.spot = none) (m : Nat) : a.add m = ⟨a.block, a.off + m, none⟩ := by
  obtain ⟨b, o, s⟩ := a
  simp only at h
  subst h
  unfold Addr.add
  split
  · rename_i h0; subst h0; rfl
  · rfl
theorem addr_eta {a : Addr} (h : a.spot = none) : a = ⟨a.block, a.off, none⟩ := by
  obtain ⟨b, o, s⟩ := a
  simp only at h
  subst h
  rfl
theorem run_load1 {P : Program} {w : World} {a : Addr} {u : Value} (h : w.cell? a = some u) : (load a).run P w = .ok u w := by
  unfold load
  rw [Sem.run, h]
  rfl
theorem run_loadCells {P : Program} {w : World} {a : Addr} : ∀ (us : List Value) (i : Nat) (acc : Array Value), (∀ (j : Nat) (u : Value), us[j]? = some u → w.cell? (a.add (i + j)) = some u) → (loadCellsFrom a i us.length acc).run P w = .ok (acc ++ us.toArray) w
  | [], i, acc, _ => by simp [loadCellsFrom]
  | u :: us, i, acc, h => by
    simp only [List.length_cons, loadCellsFrom]
    have h0 := h 0 u rfl
    have ih := run_loadCells (P := P) us (i + 1) (acc.push u) (fun j x hx => by
      have := h (j + 1) x (by simpa using hx)
      rwa [show i + (j + 1) = i + 1 + j by omega] at this)
    show (Sem.bind (load (a.add i)) _).run P w = _
    rw [Sem.run_bind']
    rw [run_load1 (by rwa [Nat.add_zero] at h0)]
    simp only [Result.andThen]
    rw [ih]
    simp
theorem Reads.vals {c : Cx} {k o : Nat} {xs : List PV} (h : Reads c k o xs) : ∃ us : List Value, RzL c xs us ∧ ∀ (j : Nat) (u : Value), us[j]? = some u → c.w.cell? ⟨k, o + j, none⟩ = some u := by
  induction xs generalizing o with
  | nil => exact ⟨[], rfl, by simp⟩
  | cons x xs ih =>
    obtain ⟨u, h1, h2⟩ := h 0 x rfl
    obtain ⟨us, h3, h4⟩ := ih (o := o + 1) (fun i y hy => by
      have := h (i + 1) y (by simpa using hy)
      rwa [show o + (i + 1) = o + 1 + i by omega] at this)
    refine ⟨u :: us, ⟨u, us, rfl, h2, h3⟩, fun j z hz => ?_⟩
    cases j with
    | zero => simp at hz; subst hz; exact h1
    | succ j =>
      have := h4 j z (by simpa using hz)
      rwa [show o + 1 + j = o + (j + 1) by omega] at this
/-- A whole variable is loaded. -/
theorem run_loadVar {P : Program} {c : Cx} {t : TypeId} {d : TypeDesc} {s b : Nat} (ht : Ty P t d s b) {a : Addr} (ha : a.spot = none) {xs : List PV} (h : Reads c a.block a.off xs) {v : PV}
    (hv : (if aggD d then (if xs.length < s then none else some (PV.agg (xs.take s))) else xs[0]?) = some v) : ∃ u, (loadVar t a).run P c.w = .ok u c.w ∧ Rz c v u := by
  unfold loadVar
  rw [Sem.run_bind, run_isAgg ht.und]
  cases hd : aggD d with
  | true =>
    rw [hd] at hv
    simp only [if_true] at hv
    split at hv
    · cases hv
    · rename_i hlen
      injection hv with hv
      subst hv
      obtain ⟨us, h1, h2⟩ := (h.take s).vals
      have hul : us.length = s := by rw [((RzL_iff _ _).1 h1).1]; simp; omega
      refine ⟨.agg us.toArray, ?_, us.toArray, rfl, h1⟩
      simp only [Result.andThen_ok, if_true]
      rw [Sem.run_bind, ht.size']
      simp only [Result.andThen_ok]
      have hr := run_loadCells (P := P) (w := c.w) (a := a) us 0 #[] (fun j u hu => by rw [Nat.zero_add, addr_add ha]; exact h2 j u hu)
      rw [hul] at hr
      unfold loadCells
      rw [Sem.run_bind, hr]
      simp
  | false =>
    rw [hd] at hv
    simp only [Bool.false_eq_true, if_false] at hv
    obtain ⟨u, h1, h2⟩ := h 0 v hv
    refine ⟨u, ?_, h2⟩
    simp only [Result.andThen_ok, Bool.false_eq_true, if_false]
    rw [Nat.add_zero, ← addr_eta ha] at h1
    exact run_load1 h1

section
variable {P : Program} {N : Nat} {o : Oper} {T : Nat → PV} {H : Nat → Option Blk'} {n : Nat}
theorem OpOk.load {t : TypeId} {x : Operand} (ho : o.op = .load t x) (hd : ∀ d, o.dst = some d → d < N) {d : TypeDesc} {s b : Nat} [ht : Ty P t d s b] {xs : List PV} {R : List Nat} (hx : cellsAt H (ev T x) = some (xs, R)) {v : PV}
    (hv : (if aggD d then (if xs.length < s then none else some (PV.agg (xs.take s))) else xs[0]?) = some v) : OpOk P N o T H n v H n R [] := by
  refine OpOk.quiet R hd fun c ac T2 hs hts hT hR => ?_
  rw [looks_of ho] at hT
  have h1 := ev_rz hts x
  rw [ev_same hT (x := x) (by simp [Op.operands])] at h1
  obtain ⟨a, e, h2, h3⟩ := cellsAt_reads hs hx hR h1
  obtain ⟨u, h4, h5⟩ := run_loadVar ht h2 h3 hv
  refine ⟨u, ?_, h5⟩
  simp [execOp, ho, e, Instr.loadAt, Instr.sureAddr, h4]
theorem VarOk.cell {s : LSt} {p : Nat} {t : TypeId} {d : TypeDesc} {sz b : Nat} [ht : Ty P t d sz b] {xs : List PV} {R : List Nat} (hx : cellsAt s.H (s.T p) = some (xs, R)) {v : PV}
    (hv : (if aggD d then (if xs.length < sz then none else some (PV.agg (xs.take sz))) else xs[0]?) = some v) : VarOk P N (.cell p t) s v := fun c a hs hts hH => by
  obtain ⟨ad, e, h2, h3⟩ := cellsAt_reads hs hx (fun i _ => by rw [hH]) (hts.at_ p)
  obtain ⟨u, h4, h5⟩ := run_loadVar ht h2 h3 hv
  refine ⟨u, ?_, h5⟩
  simp [resSem, e, asAddr, h4]
theorem OpOk.len {x : Operand} {ts : Array TypeId} (ho : o.op = .call { callee := .builtin .len, args := #[x], argTypes := ts }) (hd : ∀ d, o.dst = some d → d < N) {t : TypeId} (hts' : ts = #[t]) {e : TypeId} {s b : Nat} [ht : Ty P t (.slice e) s b] {m : Nat} {xs : List PV} {R : List Nat} (hx : elemsOf H (ev T x) = some (m, xs, R)) : OpOk P N o T H n (.int .i64 m) H n R [] := by
  refine OpOk.quiet R hd fun c ac T2 hs hts hT hR => ?_
  rw [looks_of ho] at hT
  have h1 := ev_rz hts x
  rw [ev_same hT (x := x) (by simp [Op.operands, Call.operands])] at h1
  obtain ⟨A, cap, e, _⟩ := elemsOf_reads hs hx hR h1
  refine ⟨.int .i64 m, ?_, rfl⟩
  subst hts'
  simp [execOp, ho, e, resolve, invoke, builtin, Builtin.len_, run_und ht.und, goInt]
theorem OpOk.lenStr {x : Operand} {ts : Array TypeId} (ho : o.op = .call { callee := .builtin .len, args := #[x], argTypes := ts }) (hd : ∀ d, o.dst = some d → d < N) {t : TypeId} (hts' : ts = #[t]) {s b : Nat} [ht : Ty P t .string s b] {q : ByteArray} (hx : ev T x = .str q) : OpOk P N o T H n (.int .i64 q.size) H n [] [] := by
  refine OpOk.quiet [] hd fun c ac T2 hs hts hT hR => ?_
  rw [looks_of ho] at hT
  have h1 := ev_rz hts x
  rw [ev_same hT (x := x) (by simp [Op.operands, Call.operands]), hx] at h1
  simp only [Rz] at h1
  refine ⟨.int .i64 q.size, ?_, rfl⟩
  subst hts'
  simp [execOp, ho, h1, resolve, invoke, builtin, Builtin.len_, run_und ht.und, goInt]
theorem OpOk.lenArr {x : Operand} {ts : Array TypeId} (ho : o.op = .call { callee := .builtin .len, args := #[x], argTypes := ts }) (hd : ∀ d, o.dst = some d → d < N) {t : TypeId} (hts' : ts = #[t]) {m : Nat} {e : TypeId} {s b : Nat} [ht : Ty P t (.array m e) s b] : OpOk P N o T H n (.int .i64 m) H n [] [] := by
  refine OpOk.quiet [] hd fun c ac T2 hs hts hT hR => ?_
  refine ⟨.int .i64 m, ?_, rfl⟩
  subst hts'
  simp [execOp, ho, resolve, invoke, builtin, Builtin.len_, run_und ht.und, goInt]
/-- The address of an element. -/
def elemAt (H : Nat → Option Blk') (s : Nat) (i : Nat) : PV → Option (PV × List Nat)
  | .ro _ m xs => if i < m ∧ i * s < xs.length then some (.rp (xs.drop (i * s)), []) else none
  | .os b g off m => match H b with
    | some blk => if g = blk.gen ∧ i < m ∧ s = blk.es then some (.op b g (off + i * s), [b]) else none
    | none => none
  | _ => none
theorem OpOk.indexAddr {t : TypeId} {x y : Operand} (ho : o.op = .indexAddr t x y) (hd : ∀ d, o.dst = some d → d < N) {e : TypeId} {s1 b1 : Nat} [h1 : Ty P t (.slice e) s1 b1] {d : TypeDesc} {s b : Nat} [h2 : Ty P e d s b] {k : IntKind} {i : Int} (hy : ev T y = .int k i) (h0 : 0 ≤ i) {v : PV} {R : List Nat}
    (hx : elemAt H s i.toNat (ev T x) = some (v, R)) (hne : 0 < s) : OpOk P N o T H n v H n R [] := by
  refine OpOk.quiet R hd fun c ac T2 hs hts hT hR => ?_
  rw [looks_of ho] at hT
  have hxv := ev_rz hts x
  have hyv := ev_rz hts y
  rw [ev_same hT (x := x) (by simp [Op.operands])] at hxv
  rw [ev_same hT (x := y) (by simp [Op.operands]), hy] at hyv
  simp only [Rz] at hyv
  generalize ev T x = px at *
  cases px <;> simp only [elemAt] at hx <;> try (cases hx; done)
  case ro f m xs =>
    split at hx
    · rename_i hi
      injection hx with hx; injection hx with hx hx2; subst hx
      have hxs : xs ≠ [] := fun e => by rw [e] at hi; simp at hi
      obtain ⟨A, cap, ea, e1, _, e3, e4⟩ := hxv
      obtain ⟨k0, o0, rfl, e5⟩ := e4.resolve_left hxs
      clear e4; have e4 := e5; clear e5
      have hi1 := hi.1
      have hlt : 0 ≤ i ∧ i < (m : Int) := ⟨h0, by omega⟩
      refine ⟨.pointer (some ((⟨k0, o0, none⟩ : Addr).add (i.toNat * s))), ?_, ?_⟩
      · simp [execOp, ho, ea, hyv, Instr.indexAt, asIntOf, run_und h1.und, h2.size', hlt]
      · refine ⟨_, rfl, by rw [addr_add rfl], ?_⟩
        rw [addr_add rfl]
        rw [RzAt_iff] at e4 ⊢
        intro j z hz
        rw [List.getElem?_drop] at hz
        obtain ⟨u, h5, h6, h7⟩ := e4 _ z hz
        exact ⟨u, by simpa [Nat.add_assoc] using h5, by simpa [Nat.add_assoc] using h6, h7⟩
    · cases hx
  case os b' g off m =>
    split at hx
    · rename_i blk hb
      split at hx
      · rename_i hg
        obtain ⟨hg, hi, hs'⟩ := hg
        injection hx with hx; injection hx with hx hx2; subst hx; subst hx2
        have hcb : c.H b' = some blk := (hR b' (by simp)).trans hb
        obtain ⟨hes0, a, cap, ea, e1, e2, e3⟩ := (hxv.2.2 blk hcb).2 hg
        have ha : a = ⟨(c.φ b').1, (c.φ b').2 + off, none⟩ := by
          rcases e2 with e2 | e2
          · omega
          · exact e2
        have hlt : 0 ≤ i ∧ i < (m : Int) := ⟨h0, by omega⟩
        refine ⟨.pointer (some (a.add (i.toNat * s))), ?_, ⟨_, rfl⟩, hxv.2.1, fun blk' hb' => ?_⟩
        · simp [execOp, ho, ea, hyv, Instr.indexAt, asIntOf, run_und h1.und, h2.size', hlt]
        · rw [hcb] at hb'; injection hb' with hb'; subst hb'
          refine ⟨Nat.le_of_eq hg, fun _ => ⟨hes0, ?_⟩⟩
          rw [addr_add (by rw [ha]), ha]
          simp [Nat.add_assoc]
      · cases hx
    · cases hx

/-- A field: where it begins, and its type. -/
class Fld (P : Program) (t : TypeId) (i : Nat) (off : outParam Nat) (ft : outParam TypeId) : Prop where
  out : ∃ fs f, P.underlying t = some (.struct fs) ∧ fs[i]? = some f ∧ f.offset = off ∧ f.type = ft
/-- An address m cells on. -/
def pAdd (H : Nat → Option Blk') (m : Nat) : PV → Option (PV × List Nat)
  | .rp xs => some (.rp (xs.drop m), [])
  | .op b g off => match H b with
    | some blk => if g = blk.gen then some (.op b g (off + m), [b]) else none
    | none => none
  | _ => none
theorem pAdd_rz {H : Nat → Option Blk'} {c : Cx} {p q : PV} {v : Value} {m : Nat} {R : List Nat} (h : pAdd H m p = some (q, R)) (hH : ∀ i ∈ R, c.H i = H i) (hv : Rz c p v) :
    ∃ a, v = .pointer (some a) ∧ a.spot = none ∧ Rz c q (.pointer (some ⟨a.block, a.off + m, none⟩)) := by
  cases p <;> simp only [pAdd] at h <;> try (cases h; done)
  case rp ys =>
    injection h with h; injection h with h1 h2; subst h1
    obtain ⟨a, e, h3, h4⟩ := hv
    refine ⟨a, e, h3, _, rfl, rfl, ?_⟩
    rw [RzAt_iff] at h4 ⊢
    intro j z hz
    rw [List.getElem?_drop] at hz
    obtain ⟨u, h5, h6, h7⟩ := h4 _ z hz
    exact ⟨u, by simpa [Nat.add_assoc] using h5, by simpa [Nat.add_assoc] using h6, h7⟩
  case op b g off =>
    split at h
    · rename_i blk hb
      split at h
      · rename_i hg
        injection h with h; injection h with h1 h2; subst h1; subst h2
        have hcb : c.H b = some blk := (hH b (by simp)).trans hb
        obtain ⟨hes0, e⟩ := (hv.2.2 blk hcb).2 hg
        refine ⟨_, e, rfl, ⟨_, rfl⟩, hv.2.1, fun blk' hb' => ?_⟩
        rw [hcb] at hb'; injection hb' with hb'; subst hb'
        exact ⟨Nat.le_of_eq hg, fun _ => ⟨hes0, by simp [Nat.add_assoc]⟩⟩
      · cases h
    · cases h
theorem OpOk.fieldAddr {t : TypeId} {x : Operand} {i : Nat} (ho : o.op = .fieldAddr t x i) (hd : ∀ d, o.dst = some d → d < N) {off : Nat} {ft : TypeId} [hf : Fld P t i off ft] {d : TypeDesc} {s b : Nat} [h2 : Ty P ft d s b] (hne : 0 < s) {v : PV} {R : List Nat}
    (hx : pAdd H off (ev T x) = some (v, R)) : OpOk P N o T H n v H n R [] := by
  refine OpOk.quiet R hd fun c ac T2 hs hts hT hR => ?_
  rw [looks_of ho] at hT
  have hxv := ev_rz hts x
  rw [ev_same hT (x := x) (by simp [Op.operands])] at hxv
  obtain ⟨a, e, h3, h4⟩ := pAdd_rz hx hR hxv
  obtain ⟨fs, f, h5, h6, h7, h8⟩ := hf.out
  refine ⟨_, ?_, h4⟩
  subst h7; subst h8
  have hsz := h2.size' c.w
  have : ¬ s = 0 := by omega
  simp [execOp, ho, e, Instr.fieldAt, Instr.sureAddr, run_und h5, h6, fieldPlace, hsz, this, addr_add h3]
theorem OpOk.indexAddrArr {t : TypeId} {x y : Operand} (ho : o.op = .indexAddr t x y) (hd : ∀ d, o.dst = some d → d < N) {m : Nat} {e : TypeId} {s1 b1 : Nat} [h1 : Ty P t (.array m e) s1 b1] {d : TypeDesc} {s b : Nat} [h2 : Ty P e d s b] {k : IntKind} {i : Int} (hy : ev T y = .int k i) (h0 : 0 ≤ i) (hm : i < m) {v : PV} {R : List Nat}
    (hx : pAdd H (i.toNat * s) (ev T x) = some (v, R)) : OpOk P N o T H n v H n R [] := by
  refine OpOk.quiet R hd fun c ac T2 hs hts hT hR => ?_
  rw [looks_of ho] at hT
  have hxv := ev_rz hts x
  have hyv := ev_rz hts y
  rw [ev_same hT (x := x) (by simp [Op.operands])] at hxv
  rw [ev_same hT (x := y) (by simp [Op.operands]), hy] at hyv
  simp only [Rz] at hyv
  obtain ⟨a, ea, h3, h4⟩ := pAdd_rz hx hR hxv
  have hlt : 0 ≤ i ∧ i < (m : Int) := ⟨h0, hm⟩
  refine ⟨_, ?_, h4⟩
  simp [execOp, ho, ea, hyv, Instr.indexAt, Instr.sureAddr, asIntOf, run_und h1.und, h2.size', hlt, addr_add h3]
def nnKind : PV → Bool
  | .rp _ | .op .. | .fn (.func _) .. => true
  | _ => false
theorem OpOk.nilCheck {x : Operand} (ho : o.op = .nilCheck x) (hd : ∀ d, o.dst = some d → d < N) {v : PV} {R : List Nat} (hx : nilOf H (ev T x) = some (false, R)) (hv : ev T x = v) (hk : nnKind v = true) : OpOk P N o T H n v H n R [] := by
  refine OpOk.quiet R hd fun c ac T2 hs hts hT hR => ?_
  rw [looks_of ho] at hT
  have hxv := ev_rz hts x
  rw [ev_same hT (x := x) (by simp [Op.operands]), hv] at hxv
  rw [hv] at hx
  refine ⟨ac.eval x, ?_, hxv⟩
  cases v <;> simp only [nnKind, Bool.false_eq_true] at hk
  case rp xs =>
    obtain ⟨a, e, _⟩ := hxv
    simp [execOp, ho, e]
  case op b' g off =>
    simp only [nilOf] at hx
    split at hx
    · rename_i blk hb
      split at hx
      · rename_i hg
        injection hx with hx; injection hx with hx hx2; subst hx2
        obtain ⟨hes0, e⟩ := (hxv.2.2 blk ((hR b' (by simp)).trans hb)).2 hg
        simp [execOp, ho, e]
      · cases hx
    · cases hx
  case fn f fs cs =>
    obtain ⟨as, bs, e, _⟩ := hxv
    cases f <;> simp only [nnKind, Bool.false_eq_true] at hk
    simp [execOp, ho, e]

/-- A part of a struct's or an array's value. -/
def partOf (d : TypeDesc) (s off : Nat) (xs : List PV) : Option PV := if aggD d then (if off + s ≤ xs.length then some (.agg ((xs.drop off).take s)) else none) else xs[off]?
theorem run_part {t : TypeId} {d : TypeDesc} {s b : Nat} (ht : Ty P t d s b) {c : Cx} {xs : List PV} {cs : Array Value} {off : Nat} {v : PV} (hl : RzL c xs cs.toList) (hv : partOf d s off xs = some v) : ∃ u, (part t cs off).run P c.w = .ok u c.w ∧ Rz c v u := by
  obtain ⟨h1, h2⟩ := (RzL_iff _ _).1 hl
  unfold part
  rw [Sem.run_bind, run_isAgg ht.und]
  unfold partOf at hv
  cases hd : aggD d with
  | true =>
    rw [hd] at hv
    simp only [if_true] at hv
    split at hv
    · rename_i hle
      injection hv with hv; subst hv
      refine ⟨.agg (cs.extract off (off + s)), ?_, _, rfl, ?_⟩
      · simp only [Result.andThen_ok, if_true]
        rw [Sem.run_bind, ht.size']
        rfl
      · rw [RzL_iff]
        have hsz : cs.size = xs.length := by simpa using h1
        refine ⟨by simp; omega, fun i x hx => ?_⟩
        rw [List.getElem?_take] at hx
        split at hx
        · rename_i hi
          rw [List.getElem?_drop] at hx
          obtain ⟨u, h3, h4⟩ := h2 _ x hx
          refine ⟨u, ?_, h4⟩
          simp only [Array.getElem?_toList] at h3 ⊢
          rw [Array.getElem?_extract, if_pos (by omega)]
          exact h3
        · cases hx
    · cases hv
  | false =>
    rw [hd] at hv
    simp only [Bool.false_eq_true, if_false] at hv
    obtain ⟨u, h3, h4⟩ := h2 _ v hv
    refine ⟨u, ?_, h4⟩
    simp only [Array.getElem?_toList] at h3
    simp only [Result.andThen_ok, Bool.false_eq_true, if_false, h3]
    rfl
theorem OpOk.field {t : TypeId} {x : Operand} {i : Nat} (ho : o.op = .field t x i) (hd : ∀ d, o.dst = some d → d < N) {off : Nat} {ft : TypeId} [hf : Fld P t i off ft] {d : TypeDesc} {s b : Nat} [h2 : Ty P ft d s b] {xs : List PV} (hx : ev T x = .agg xs) {v : PV}
    (hv : partOf d s off xs = some v) : OpOk P N o T H n v H n [] [] := by
  refine OpOk.quiet [] hd fun c ac T2 hs hts hT hR => ?_
  rw [looks_of ho] at hT
  have hxv := ev_rz hts x
  rw [ev_same hT (x := x) (by simp [Op.operands]), hx] at hxv
  obtain ⟨cs, e, hl⟩ := hxv
  obtain ⟨fs, f, h5, h6, h7, h8⟩ := hf.out
  obtain ⟨u, h3, h4⟩ := run_part h2 hl hv
  refine ⟨u, ?_, h4⟩
  subst h7; subst h8
  simp [execOp, ho, e, Instr.field, run_und h5, h6, asAgg, h3]
theorem OpOk.index {t : TypeId} {x y : Operand} (ho : o.op = .index t x y) (hd : ∀ d, o.dst = some d → d < N) {m : Nat} {e : TypeId} {s1 b1 : Nat} [h1 : Ty P t (.array m e) s1 b1] {d : TypeDesc} {s b : Nat} [h2 : Ty P e d s b] {k : IntKind} {i : Int} (hy : ev T y = .int k i) (h0 : 0 ≤ i) (hm : i < m) {xs : List PV} (hx : ev T x = .agg xs) {v : PV}
    (hv : partOf d s (i.toNat * s) xs = some v) : OpOk P N o T H n v H n [] [] := by
  refine OpOk.quiet [] hd fun c ac T2 hs hts hT hR => ?_
  rw [looks_of ho] at hT
  have hxv := ev_rz hts x
  have hyv := ev_rz hts y
  rw [ev_same hT (x := x) (by simp [Op.operands]), hx] at hxv
  rw [ev_same hT (x := y) (by simp [Op.operands]), hy] at hyv
  simp only [Rz] at hyv
  obtain ⟨cs, ea, hl⟩ := hxv
  obtain ⟨u, h3, h4⟩ := run_part h2 hl hv
  have hlt : 0 ≤ i ∧ i < (m : Int) := ⟨h0, hm⟩
  refine ⟨u, ?_, h4⟩
  simp [execOp, ho, ea, hyv, Instr.index, asIntOf, run_und h1.und, h2.size', hlt, h3]

/-- The two bounds of a cut. -/
def bnd (T : Nat → PV) (none' : Nat) : Option Operand → Option Nat
  | none => some none'
  | some x => match ev T x with
    | .int _ i => if 0 ≤ i then some i.toNat else none
    | _ => none
theorem bnd_run {c : Cx} {a : Act} (ht : TSim c T a N) {x : Operand} {m : Nat} {k : Nat} (h : bnd T m (some x) = some k) {y : Nat} (hy : k ≤ y) (code : BoundsCode) : (Instr.sliceBound (a.eval x) y code).run P c.w = .ok k c.w := by
  simp only [bnd] at h
  have hv := ev_rz ht x
  split at h
  · rename_i kk i hi
    rw [hi] at hv
    simp only [Rz] at hv
    split at h
    · rename_i h0
      injection h with h; subst h
      have : 0 ≤ i ∧ i ≤ (y : Int) := ⟨h0, by omega⟩
      simp [Instr.sliceBound, hv, asIntOf, this]
    · cases h
  · cases h
theorem bnd_same {T2 : Nat → PV} {l : List Operand} (h : ∀ t ∈ tmpsOf l, T2 t = T t) {m : Nat} {x : Option Operand} (hx : ∀ y, x = some y → y ∈ l) : bnd T2 m x = bnd T m x := by
  cases x with
  | none => rfl
  | some y => simp only [bnd, ev_same h (hx y rfl)]
/-- A cut x[l:h] of a slice, not beyond its length. -/
def cutOf (H : Nat → Option Blk') (s l h : Nat) : PV → Option (PV × List Nat)
  | .nils => if l = 0 ∧ h = 0 then some (.nils, []) else none
  | .ro f m xs => if l ≤ h ∧ h ≤ m then some (.ro (f && h == m) (h - l) ((xs.drop (l * s)).take ((h - l) * s)), []) else none
  | .os b g off m => match H b with
    | some blk => if g = blk.gen ∧ l ≤ h ∧ h ≤ m ∧ s = blk.es then some (.os b g (off + l * s) (h - l), [b]) else none
    | none => none
  | _ => none
def lenPV : PV → Nat
  | .ro _ m _ => m
  | .os _ _ _ m => m
  | _ => 0
theorem OpOk.cut {t : TypeId} {x : Operand} {lo hi : Option Operand} (ho : o.op = .slice t x lo hi none) (hd : ∀ d, o.dst = some d → d < N) {e : TypeId} {s1 b1 : Nat} [h1 : Ty P t (.slice e) s1 b1] {d : TypeDesc} {s b : Nat} [h2 : Ty P e d s b] {l h : Nat} (hl : bnd T 0 lo = some l) (hh : bnd T (lenPV (ev T x)) hi = some h) {v : PV} {R : List Nat}
    (hx : cutOf H s l h (ev T x) = some (v, R)) : OpOk P N o T H n v H n R [] := by
  refine OpOk.quiet R hd fun c ac T2 hs hts hT hR => ?_
  rw [looks_of ho] at hT
  have hxv := ev_rz hts x
  rw [ev_same hT (x := x) (by simp [Op.operands])] at hxv
  rw [← bnd_same hT (x := lo) (fun y hy => by simp [Op.operands, hy])] at hl
  rw [← bnd_same hT (x := hi) (fun y hy => by simp [Op.operands, hy])] at hh
  generalize ev T x = px at *
  -- the value
  have key : ∀ (A : Option Addr) (m cap : Nat), ac.eval x = .slice A m cap → lenPV px = m → l ≤ h → h ≤ m → m ≤ cap →
      (execOp ac.eval o).run P c.w = .ok (.value (.slice (if cap = l then A else A.map (·.add (l * s))) (h - l) (cap - l))) c.w := by
    intro A m cap ea hm h3 h4 h5
    have hb : (Instr.sliceBounds true m cap (lo.map ac.eval) (hi.map ac.eval) none).run P c.w = .ok (l, h, cap) c.w := by
      unfold Instr.sliceBounds
      cases lo with
      | none =>
        simp only [bnd] at hl
        injection hl with hl; subst hl
        cases hi with
        | none =>
          simp only [bnd, hm] at hh
          injection hh with hh; subst hh
          simp
        | some y => simp [bnd_run hts hh (show h ≤ cap by omega)]
      | some z =>
        cases hi with
        | none =>
          simp only [bnd, hm] at hh
          injection hh with hh; subst hh
          simp [bnd_run hts hl h3]
        | some y => simp [bnd_run hts hh (show h ≤ cap by omega), bnd_run hts hl h3]
    simp [execOp, ho, Instr.sliceAt, run_und h1.und, Instr.slice, ea, hb, h2.size']
  cases px <;> simp only [cutOf] at hx <;> try (cases hx; done)
  case nils =>
    split at hx
    · rename_i hc
      obtain ⟨rfl, rfl⟩ := hc
      injection hx with hx; injection hx with hx hx2; subst hx
      simp only [Rz] at hxv
      refine ⟨_, key none 0 0 hxv rfl (Nat.le_refl _) (Nat.le_refl _) (Nat.le_refl _), ?_⟩
      simp [Rz]
    · cases hx
  case ro f m xs =>
    split at hx
    · rename_i hc
      injection hx with hx; injection hx with hx hx2; subst hx
      obtain ⟨A, cap, ea, e1, e2, e3, e4⟩ := hxv
      refine ⟨_, key A m cap ea rfl hc.1 hc.2 e1, if cap = l then A else A.map (·.add (l * s)), cap - l, rfl, by omega, fun hf => ?_, fun hne => ?_, ?_⟩
      · simp only [Bool.and_eq_true, beq_iff_eq] at hf
        have := e2 hf.1
        omega
      · have : A = none := by
          split at hne
          · exact hne
          · exact Option.map_eq_none_iff.1 hne
        have := e3 this
        omega
      · by_cases hxs : (xs.drop (l * s)).take ((h - l) * s) = []
        · exact .inl hxs
        · have hxs' : xs ≠ [] := fun e => hxs (by rw [e]; simp)
          have hne : cap ≠ l := by
            rintro rfl
            apply hxs
            have : h - cap = 0 := by omega
            simp [this]
          obtain ⟨k0, o0, rfl, e5⟩ := e4.resolve_left hxs'
          clear e4; have e4 := e5; clear e5
          rw [if_neg hne]
          refine .inr ⟨k0, o0 + l * s, by rw [Option.map_some, addr_add rfl], ?_⟩
          rw [RzAt_iff] at e4 ⊢
          intro j z hz
          rw [List.getElem?_take] at hz
          split at hz
          · rw [List.getElem?_drop] at hz
            obtain ⟨u, h5, h6, h7⟩ := e4 _ z hz
            exact ⟨u, by simpa [Nat.add_assoc] using h5, by simpa [Nat.add_assoc] using h6, h7⟩
          · cases hz
    · cases hx
  case os b' g off m =>
    split at hx
    · rename_i blk hb
      split at hx
      · rename_i hc
        obtain ⟨hg, hc1, hc2, hs'⟩ := hc
        injection hx with hx; injection hx with hx hx2; subst hx; subst hx2
        have hcb : c.H b' = some blk := (hR b' (by simp)).trans hb
        obtain ⟨hes0, a, cap, ea, e1, e2, e3⟩ := (hxv.2.2 blk hcb).2 hg
        refine ⟨_, key (some a) m cap ea rfl hc1 hc2 e1, ⟨_, _, _, rfl⟩, hxv.2.1, fun blk' hb' => ?_⟩
        rw [hcb] at hb'; injection hb' with hb'; subst hb'
        refine ⟨Nat.le_of_eq hg, fun _ => ⟨hes0, if cap = l then a else a.add (l * s), cap - l, ?_, by omega, ?_, ?_⟩⟩
        · split <;> rfl
        · by_cases hcl : cap = l
          · exact .inl (by omega)
          · refine .inr ?_
            rw [if_neg hcl]
            rcases e2 with e2 | e2
            · omega
            · rw [addr_add (by rw [e2]), e2]
              simp [Nat.add_assoc]
        · rw [← hs'] at e3 ⊢
          have : l * s + (cap - l) * s = cap * s := by rw [← Nat.add_mul]; congr 1; omega
          omega
      · cases hx
    · cases hx
end
end Go.Proofs.Ythnjhhohfhnhgaa
