/- The logic of pure values: appends, stores, makes, literals as the walk meets them; what is told more loosely; what is gathered in a loop. -/
import Derived.Test.YthnjhhohfhnhgaaPvW
namespace Go.Proofs.Ythnjhhohfhnhgaa
open Go Go.RowKit

/-! ### Told more loosely -/
/-- Whatever x tells, y tells too. -/
def Wk (x y : PV) : Prop := ∀ c v, Rz c x v → Rz c y v
theorem Wk.refl (x : PV) : Wk x x := fun _ _ h => h
theorem Wk.junk (x : PV) : Wk x .junk := fun _ _ _ => by simp [Rz]
theorem wk_false (f : Bool) (n : Nat) (xs : List PV) : Wk (.ro f n xs) (.ro false n xs) := by
  rintro c v ⟨A, cap, e, h1, h2, h3⟩
  exact ⟨A, cap, e, h1, by simp, h3⟩
theorem wk_nils (f : Bool) : Wk .nils (.ro f 0 []) := by
  intro c v h
  exact ⟨none, 0, h, Nat.le_refl _, fun _ => rfl, fun _ => rfl, .inl rfl⟩
/-- x, told as y: flags of room are let go. -/
class Cv (x y : PV) : Prop where
  out : ∀ H vis, Snap H vis x y
class CvL (xs ys : List PV) : Prop where
  out : ∀ H vis, SnapL H vis xs ys
instance (priority := 2000) (x : PV) [h : Cl x] : Cv x x := ⟨h.out⟩
instance (priority := 2000) (xs : List PV) [h : ClL xs] : CvL xs xs := ⟨h.out⟩
instance : CvL [] [] := ⟨fun _ _ => .nil⟩
instance (x y : PV) (xs ys : List PV) [h : Cv x y] [hl : CvL xs ys] : CvL (x :: xs) (y :: ys) := ⟨fun H vis => .cons (h.out H vis) (hl.out H vis)⟩
theorem snap_wk {H : Nat → Option Blk'} {vis : List Nat} {x y z : PV} (h : Snap H vis x y) (k : Wk y z) : Snap H vis x z := fun c v V' h1 h2 h3 h4 hv => k _ _ (h c v V' h1 h2 h3 h4 hv)
instance (f : Bool) (n : Nat) (xs ys : List PV) [h : CvL xs ys] : Cv (.ro f n xs) (.ro false n ys) := ⟨fun H vis => snap_wk (snap_ro (h.out H vis)) (wk_false _ _ _)⟩
instance (f : Bool) : Cv .nils (.ro f 0 []) := ⟨fun H vis => snap_wk ((inferInstance : Cl .nils).out H vis) (wk_nils f)⟩
instance (xs ys : List PV) [h : CvL xs ys] : Cv (.rp xs) (.rp ys) := ⟨fun H vis => snap_rp (h.out H vis)⟩
instance (xs ys : List PV) [h : CvL xs ys] : Cv (.agg xs) (.agg ys) := ⟨fun H vis => snap_agg (h.out H vis)⟩
instance (xs ys : List PV) [h : CvL xs ys] : Cv (.tup xs) (.tup ys) := ⟨fun H vis => snap_tup (h.out H vis)⟩
instance (x : PV) : Cv x .junk := ⟨fun _ _ _ _ _ _ _ _ _ _ => by simp [Rz]⟩

def enumP : Nat → List PV → List (Nat × PV)
  | _, [] => []
  | i, y :: ys => (i, y) :: enumP (i + 1) ys
theorem leaf_cells {x : PV} (h : leaf x = true) : cellsPV x = [x] ∧ whole x = true := by
  cases x <;> first | exact ⟨rfl, rfl⟩ | (simp [leaf] at h; done)
theorem fill_lit : ∀ (ys pre rest : List PV), (∀ y ∈ ys, leaf y = true) → rest.length = ys.length → fillPV (fun i => some (i * 1, 1)) (pre ++ rest) (enumP pre.length ys) = some (pre ++ ys)
  | [], pre, rest, _, hl => by
    obtain rfl : rest = [] := List.eq_nil_of_length_eq_zero (by simpa using hl)
    rfl
  | y :: ys, pre, rest, h, hl => by
    cases rest with
    | nil => simp at hl
    | cons r rest =>
      obtain ⟨h1, h2⟩ := leaf_cells (h y (by simp))
      have ih := fill_lit ys (pre ++ [y]) rest (fun z hz => h z (by simp [hz])) (by simpa using hl)
      rw [List.length_append, List.length_singleton] at ih
      simp only [Nat.mul_one] at ih
      simp only [enumP, fillPV, h1, h2, setAt, Nat.mul_one]
      rw [if_neg (by simp)]
      rw [show (pre ++ r :: rest).set pre.length y = (pre ++ [y]) ++ rest by simp]
      rw [ih]
      simp

section
variable {P : Program} {N : Nat} {o : Oper} {T : Nat → PV} {H : Nat → Option Blk'} {n : Nat} {v : PV} {R : List Nat}
/-- A call; what it is handed may be told more loosely. -/
theorem oCallC {g : FuncId} [Ent P g] {f : Operand} {as : Array Operand} {ts : Array TypeId} {ys zs : List PV} {r : PV} (ho : o.op = .call { callee := .value f, args := as, argTypes := ts }) (hN : dstB o.dst N = true) (hf : ev T f = .fn (.func g) [] []) (hy : as.toList.map (ev T) = ys) (hc : Ctr P g zs r) [hcl : CvL ys zs] : OpOk P N o T H n r H n [] [] := by
  have := OpOk.call (P := P) (N := N) (T := T) (H := H) (n := n) [] ho (dst_of hN) hf (xs := zs) (by rw [List.nil_append, List.append_nil, hy]; exact hcl.out H []) hc
  have e : freeze' H [] = H := by funext i; simp [freeze']
  rwa [e] at this
/-- A call that is handed own blocks: these stand from then on as they are. -/
theorem oCallV {g : FuncId} [Ent P g] {f : Operand} {as : Array Operand} {ts : Array TypeId} {ys zs : List PV} {r : PV} (i : Nat) (b : Blk') (ho : o.op = .call { callee := .value f, args := as, argTypes := ts }) (hN : dstB o.dst N = true) (hf : ev T f = .fn (.func g) [] []) (hy : as.toList.map (ev T) = ys) (hb : H i = some b) (hs : SnapL H [i] ys zs) (hc : Ctr P g zs r) :
    OpOk P N o T H n r (setH H i { b with lo := max b.lo b.cells.length }) n [] [i] := by
  have := OpOk.call (P := P) (N := N) (T := T) (H := H) (n := n) [i] ho (dst_of hN) hf (xs := zs) (by rw [List.nil_append, List.append_nil, hy]; exact hs) hc
  have e : freeze' H [i] = setH H i { b with lo := max b.lo b.cells.length } := by
    funext j
    by_cases h : j = i
    · subst h; simp [freeze', hb, setH_same]
    · rw [setH_ne _ _ h]; simp [freeze', h]
  rwa [e] at this

theorem oAppend {sx x : Operand} {ts : Array TypeId} (ho : o.op = .call { callee := .builtin .append, args := #[sx, x], argTypes := ts }) (hN : dstB o.dst N = true) {t tx : TypeId} (hts' : ts = #[t, tx]) {e : TypeId} {s1 b1 : Nat} [h1 : Ty P t (.slice e) s1 b1] {dx : TypeDesc} {s2 b2 : Nat} [hx' : Ty P tx dx s2 b2] {d : TypeDesc} {s b : Nat} {z : Value} [h2 : Ty P e d s b] [hz : TyZ P e z]
    (hzs : z.cells.size = s) (h0 : 0 < s) {i g off k : Nat} {blk : Blk'} (hs : ev T sx = .os i g off k) (hb : H i = some blk) (hg : g = blk.gen) (hes : blk.es = s) (hin : off + k * s ≤ blk.cells.length) (hlo : blk.lo ≤ off + k * s)
    {px : PV} (hxe : ev T x = px) {m : Nat} {ys zs : List PV} (hx : srcOf H px = some (m, ys, R)) (hk : srcKind dx s px = true) (hlen : ys.length = m * s) (hlf : ∀ y ∈ ys, leaf y = true) (hbd : (k + m) * b ≤ 140737488355328) (h63 : k + m ≤ 9223372036854775807) (hzz : (blk.cells.drop off).take (k * s) ++ ys = zs) :
    OpOk P N o T H n (.os i (g + 1) 0 (k + m)) (setH H i ⟨g + 1, s, blk.lo - off, zs⟩) n R [i] := hzz ▸ OpOk.append ho (dst_of hN) hts' hzs h0 hs hb hg hes hin hlo hxe hx hk hlen hlf hbd h63
theorem oAppendNew {sx x : Operand} {ts : Array TypeId} (ho : o.op = .call { callee := .builtin .append, args := #[sx, x], argTypes := ts }) (hN : dstB o.dst N = true) {t tx : TypeId} (hts' : ts = #[t, tx]) {e : TypeId} {s1 b1 : Nat} [h1 : Ty P t (.slice e) s1 b1] {dx : TypeDesc} {s2 b2 : Nat} [hx' : Ty P tx dx s2 b2] {d : TypeDesc} {s b : Nat} {z : Value} [h2 : Ty P e d s b] [hz : TyZ P e z]
    (hzs : z.cells.size = s) (h0 : 0 < s) {k : Nat} {xs : List PV} {q0 : PV} (hs : ev T sx = q0) (hbs : baseOf q0 = some (k, xs)) (hxl : xs.length = k * s)
    {px : PV} (hxe : ev T x = px) {m : Nat} {ys : List PV} (hx : srcOf H px = some (m, ys, R)) (hk : srcKind dx s px = true) (hlen : ys.length = m * s) (hlf : ∀ y ∈ ys, leaf y = true) (hbd : (k + m) * b ≤ 140737488355328) (h63 : k + m ≤ 9223372036854775807) (hm : 0 < m) {q : Nat} (hq : k + m = q) {zs : List PV} (hzz : xs ++ ys = zs) :
    OpOk P N o T H n (.os n 0 0 q) (setH H n ⟨0, s, 0, zs⟩) (n + 1) R [n] := hq ▸ hzz ▸ OpOk.appendNew ho (dst_of hN) hts' hzs h0 (by rw [hs]; exact hbs) hxl hxe hx hk hlen hlf hbd h63 hm
/-- append onto an own slice that ends where its block ends. -/
theorem oPush {sx x : Operand} {ts : Array TypeId} (ho : o.op = .call { callee := .builtin .append, args := #[sx, x], argTypes := ts }) (hN : dstB o.dst N = true) {t tx : TypeId} (hts' : ts = #[t, tx]) {e : TypeId} {s1 b1 : Nat} [h1 : Ty P t (.slice e) s1 b1] {dx : TypeDesc} {s2 b2 : Nat} [hx' : Ty P tx dx s2 b2] {d : TypeDesc} {s b : Nat} {z : Value} [h2 : Ty P e d s b] [hz : TyZ P e z]
    (hzs : z.cells.size = s) (h0 : 0 < s) {i g k lo : Nat} {cs : List PV} (hs : ev T sx = .os i g 0 k) (hb : H i = some ⟨g, s, lo, cs⟩) (hin : cs.length = k * s) (hlo : lo ≤ k * s)
    {px : PV} (hxe : ev T x = px) {m : Nat} {ys : List PV} (hx : srcOf H px = some (m, ys, R)) (hk : srcKind dx s px = true) (hlen : ys.length = m * s) (hlf : ∀ y ∈ ys, leaf y = true) (hbd : (k + m) * b ≤ 140737488355328) (h63 : k + m ≤ 9223372036854775807) {q : Nat} (hq : k + m = q) {zs : List PV} (hzz : cs ++ ys = zs) :
    OpOk P N o T H n (.os i (g + 1) 0 q) (setH H i ⟨g + 1, s, lo, zs⟩) n R [i] := by
  have := OpOk.append (P := P) (N := N) (n := n) ho (dst_of hN) hts' hzs h0 hs hb rfl rfl (by simp [hin]) (by simpa using hlo) hxe hx hk hlen hlf hbd h63
  have e : (List.drop 0 cs).take (k * s) ++ ys = zs := by rw [List.drop_zero, ← hin, List.take_length]; exact hzz
  simp only [e, hq, Nat.sub_zero] at this
  exact this
theorem oAppendNone {sx x : Operand} {ts : Array TypeId} (ho : o.op = .call { callee := .builtin .append, args := #[sx, x], argTypes := ts }) (hN : dstB o.dst N = true) {t tx : TypeId} (hts' : ts = #[t, tx]) {e : TypeId} {s1 b1 : Nat} [h1 : Ty P t (.slice e) s1 b1] {dx : TypeDesc} {s2 b2 : Nat} [hx' : Ty P tx dx s2 b2] {d : TypeDesc} {s b : Nat} {z : Value} [h2 : Ty P e d s b] [hz : TyZ P e z] (h0 : 0 < s)
    (hs : ev T sx = v) {q : Nat × List PV × List Nat} {R2 : List Nat} (hq : elemsOf H v = some q) (hR2 : q.2.2 = R2) {px : PV} (hxe : ev T x = px) (hx : srcOf H px = some (0, [], R)) (hk : srcKind dx s px = true) : OpOk P N o T H n v H n (R2 ++ R) [] := OpOk.appendNone ho (dst_of hN) hts' h0 hs hq hR2 hxe hx hk
theorem oMake {t : TypeId} {x y : Operand} (ho : o.op = .makeSlice t x y) (hN : dstB o.dst N = true) {e : TypeId} {s1 b1 : Nat} [h1 : Ty P t (.slice e) s1 b1] {d : TypeDesc} {s b : Nat} {z : Value} [h2 : Ty P e d s b] [hz : TyZ P e z] {k k' : IntKind} {l m : Int} (hx : ev T x = .int k l) (hy : ev T y = .int k' m)
    (h0 : 0 ≤ l) (hlm : l ≤ m) (hb : (b : Int) * m ≤ 281474976710656) (h63 : m ≤ 9223372036854775807) (hzs : z.cells.size = s) (hs0 : 0 < s) : OpOk P N o T H n (.os n 0 0 l.toNat) (setH H n ⟨0, s, 0, zerosPV z s m.toNat⟩) (n + 1) [] [n] := OpOk.make ho (dst_of hN) hx hy h0 hlm hb h63 hzs hs0
theorem oStore {t : TypeId} {x y : Operand} (ho : o.op = .store t x y) (hN : dstB o.dst N = true) {d : TypeDesc} {s b : Nat} [ht : Ty P t d s b] {i g off : Nat} {blk : Blk'} (hx : ev T x = .op i g off) (hb : H i = some blk) (hg : g = blk.gen) {v : PV} (hy : ev T y = v) (hw : whole v = true) (hlf : ∀ z ∈ cellsPV v, leaf z = true) (hlen : (cellsPV v).length = s)
    (hlo : blk.lo ≤ off) (hin : off + s ≤ blk.cells.length) {cs : List PV} (hcs : setAt blk.cells off (cellsPV v) = cs) : OpOk P N o T H n .junk (setH H i ⟨blk.gen, blk.es, blk.lo, cs⟩) n [] [i] := hcs ▸ OpOk.store ho (dst_of hN) hx hb hg hy hw hlf hlen hlo hin
theorem oBuildSlice {t : TypeId} {ps : Array (Nat × Operand)} {len : Nat} (ho : o.op = .buildSlice t len ps) (hN : dstB o.dst N = true) {z : Value} {e : TypeId} {s1 b1 : Nat} [h1 : Ty P t (.slice e) s1 b1] {d : TypeDesc} {s b : Nat} [hz : TyZ P e z] [h2 : Ty P e d s b] (hzs : z.cells.size = s) (h0 : 0 < s) (hl : len * s ≤ 16777216) {ps' : List (Nat × PV)} {ys : List PV}
    (hp : partsPV T ps.toList = ps') (hx : fillPV (fun i => some (i * s, s)) (zerosPV z s len) ps' = some ys) : OpOk P N o T H n (.ro true len ys) H n [] [] := OpOk.buildSlice ho (dst_of hN) hzs h0 hl (by rw [hp]; exact hx)
theorem oBuildSliceOwn {t : TypeId} {ps : Array (Nat × Operand)} {len : Nat} (ho : o.op = .buildSlice t len ps) (hN : dstB o.dst N = true) {z : Value} {e : TypeId} {s1 b1 : Nat} [h1 : Ty P t (.slice e) s1 b1] {d : TypeDesc} {s b : Nat} [hz : TyZ P e z] [h2 : Ty P e d s b] (hzs : z.cells.size = s) (h0 : 0 < s) (hl : len * s ≤ 16777216) {ps' : List (Nat × PV)} {ys : List PV}
    (hp : partsPV T ps.toList = ps') (hx : fillPV (fun i => some (i * s, s)) (zerosPV z s len) ps' = some ys) (hyl : ys.length = len * s) : OpOk P N o T H n (.os n 0 0 len) (setH H n ⟨0, s, 0, ys⟩) (n + 1) [] [n] := OpOk.buildSliceOwn ho (dst_of hN) hzs h0 hl (by rw [hp]; exact hx) hyl
theorem oBuildS {t : TypeId} {ps : Array (Nat × Operand)} (ho : o.op = .build t ps) (hN : dstB o.dst N = true) {z : Value} {pl : List (Nat × Nat)} [hz : TyZ P t z] [hs : Stc P t pl] {ps' : List (Nat × PV)} {ys : List PV}
    (hp : partsPV T ps.toList = ps') (hx : fillPV (fun i => pl[i]?) (zeroPV z) ps' = some ys) : OpOk P N o T H n (.agg ys) H n [] [] := OpOk.buildS ho (dst_of hN) (by rw [hp]; exact hx)
theorem oBuildA {t : TypeId} {ps : Array (Nat × Operand)} (ho : o.op = .build t ps) (hN : dstB o.dst N = true) {z : Value} {m : Nat} {e : TypeId} {s1 b1 : Nat} [h1 : Ty P t (.array m e) s1 b1] {d : TypeDesc} {s b : Nat} [hz : TyZ P t z] [h2 : Ty P e d s b] {ps' : List (Nat × PV)} {ys : List PV}
    (hp : partsPV T ps.toList = ps') (hx : fillPV (fun i => some (i * s, s)) (zeroPV z) ps' = some ys) : OpOk P N o T H n (.agg ys) H n [] [] := OpOk.buildA ho (dst_of hN) (by rw [hp]; exact hx)
theorem oMakeFunc {f : Fn} {as bs : Array Operand} (ho : o.op = .makeFunc f as bs) (hN : dstB o.dst N = true) {xs ys : List PV} (hx : as.toList.map (ev T) = xs) (hy : bs.toList.map (ev T) = ys) : OpOk P N o T H n (.fn f xs ys) H n [] [] := OpOk.makeFunc ho (dst_of hN) hx hy
theorem oMinN {x y : Operand} {ts : Array TypeId} {k j : IntKind} {a b : Nat} (ho : o.op = .call { callee := .builtin .min, args := #[x, y], argTypes := ts }) (hN : dstB o.dst N = true) (hx : ev T x = .int k a) (hy : ev T y = .int j b) : OpOk P N o T H n (.int k (min a b : Nat)) H n [] [] := by
  have := OpOk.minmax (P := P) (H := H) (n := n) false ho (dst_of hN) hx hy
  have e : (if false = true then max (a : Int) b else min (a : Int) b) = ((min a b : Nat) : Int) := by simp; omega
  rwa [e] at this
theorem oMaxN {x y : Operand} {ts : Array TypeId} {k j : IntKind} {a b : Nat} (ho : o.op = .call { callee := .builtin .max, args := #[x, y], argTypes := ts }) (hN : dstB o.dst N = true) (hx : ev T x = .int k a) (hy : ev T y = .int j b) : OpOk P N o T H n (.int k (max a b : Nat)) H n [] [] := by
  have := OpOk.minmax (P := P) (H := H) (n := n) true ho (dst_of hN) hx hy
  have e : (if true = true then max (a : Int) b else min (a : Int) b) = ((max a b : Nat) : Int) := by simp; omega
  rwa [e] at this
/-- A literal of elements of one cell, all told. -/
theorem oLit {t : TypeId} {ps : Array (Nat × Operand)} {len : Nat} (ho : o.op = .buildSlice t len ps) (hN : dstB o.dst N = true) {z : Value} {e : TypeId} {s1 b1 : Nat} [h1 : Ty P t (.slice e) s1 b1] {d : TypeDesc} {b : Nat} [hz : TyZ P e z] [h2 : Ty P e d 1 b] (hzs : z.cells.size = 1) (hl : len * 1 ≤ 16777216) (ys : List PV)
    (hp : partsPV T ps.toList = enumP 0 ys) (hn : ys.length = len) (hlf : ∀ y ∈ ys, leaf y = true) : OpOk P N o T H n (.ro true len ys) H n [] [] :=
  OpOk.buildSlice ho (dst_of hN) hzs (by omega) hl (by rw [hp]; exact fill_lit ys [] (zerosPV z 1 len) hlf (by simp [zerosPV, hn]))
theorem oLitOwn {t : TypeId} {ps : Array (Nat × Operand)} {len : Nat} (ho : o.op = .buildSlice t len ps) (hN : dstB o.dst N = true) {z : Value} {e : TypeId} {s1 b1 : Nat} [h1 : Ty P t (.slice e) s1 b1] {d : TypeDesc} {b : Nat} [hz : TyZ P e z] [h2 : Ty P e d 1 b] (hzs : z.cells.size = 1) (hl : len * 1 ≤ 16777216) (ys : List PV)
    (hp : partsPV T ps.toList = enumP 0 ys) (hn : ys.length = len) (hlf : ∀ y ∈ ys, leaf y = true) : OpOk P N o T H n (.os n 0 0 len) (setH H n ⟨0, 1, 0, ys⟩) (n + 1) [] [n] :=
  OpOk.buildSliceOwn ho (dst_of hN) hzs (by omega) hl (by rw [hp]; exact fill_lit ys [] (zerosPV z 1 len) hlf (by simp [zerosPV, hn])) (by simp [hn])
theorem parts_nil : partsPV T ([] : List (Nat × Operand)) = [] := rfl
theorem parts_cons {i : Nat} {x : Operand} {l : List (Nat × Operand)} {y : PV} {ys : List (Nat × PV)} (h : ev T x = y) (hl : partsPV T l = ys) : partsPV T ((i, x) :: l) = (i, y) :: ys := by
  unfold partsPV at hl ⊢
  rw [List.map_cons, hl]
  simp [h]
theorem evp_a {l : List (Nat × Operand)} {ys : List (Nat × PV)} (h : partsPV T l = ys := by ((repeat (apply parts_cons; focus (first | (apply ev_tmp; ((repeat (apply Lk.there; focus rfl)); exact Lk.here)) | exact ev_cint | exact ev_cbool | exact ev_cnilp | exact ev_cnils | exact ev_func | exact ev_cstr | exact ev_cnilf | exact ev_cnili))); exact parts_nil)) : partsPV T l = ys := h
end
section
variable {P : Program} {N : Nat} {TL : List (Nat × PV)} {HL : List (Nat × Blk')} {n : Nat}
/-- One result, told by r. -/
theorem ret1c {t : Nat} {fn : Func} {r0 r : PV} (h : fn.results = #[.tmp t]) (hl : Lk TL t r0) [hc : Cv r0 r] : ∃ r0 vis, ResOk P N fn (St' TL HL n) r0 ∧ Snap (St' TL HL n).H vis r0 r :=
  ⟨r0, [], .one h (res_tmp hl), hc.out _ _⟩
theorem ret2c {t u : Nat} {fn : Func} {r0 q0 r q : PV} (h : fn.results = #[.tmp t, .tmp u]) (hl : Lk TL t r0) (hl2 : Lk TL u q0) [hc : Cv r0 r] [hc2 : Cv q0 q] : ∃ r0 vis, ResOk P N fn (St' TL HL n) r0 ∧ Snap (St' TL HL n).H vis r0 (.tup [r, q]) :=
  ⟨.tup [r0, q0], [], .many [.tmp t, .tmp u] h rfl (Nat.le_refl 2) (fun i x hx => by
    match i, hx with
    | 0, hx => injection hx with hx; subst hx; exact res_tmp hl
    | 1, hx => injection hx with hx; subst hx; exact res_tmp hl2), snap_tup (.cons (hc.out _ _) (.cons (hc2.out _ _) .nil))⟩
/-- One result, an own slice. -/
theorem ret1o {t i g off k : Nat} {fn : Func} {b : Blk'} {ys : List PV} (h : fn.results = #[.tmp t]) (hl : Lk TL t (.os i g off k)) (hb : hget HL i = some b) (hg : g = b.gen) (hn : off + k * b.es ≤ b.cells.length) (hy : (b.cells.drop off).take (k * b.es) = ys) [hc : ClL ys] : ∃ r0 vis, ResOk P N fn (St' TL HL n) r0 ∧ Snap (St' TL HL n).H vis r0 (.ro false k ys) :=
  ⟨.os i g off k, [i], .one h (res_tmp hl), snap_os (by simp) hb hg hn (by rw [hy]; exact hc.out _ _)⟩

/-! ### What is gathered in a loop: nil at first, then an own block -/
def accV (b m : Nat) : PV := match m with
  | 0 => .nils
  | m + 1 => .os b m 0 (m + 1)
def accH (b es m : Nat) (xs : List PV) (HL : List (Nat × Blk')) : List (Nat × Blk') := match m with
  | 0 => HL
  | m + 1 => (b, ⟨m, es, 0, xs⟩) :: HL
def accN (b m : Nat) : Nat := match m with
  | 0 => b
  | _ + 1 => b + 1
end
end Go.Proofs.Ythnjhhohfhnhgaa
