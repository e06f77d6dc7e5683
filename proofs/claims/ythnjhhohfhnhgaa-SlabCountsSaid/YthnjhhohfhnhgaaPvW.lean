/- The logic of pure values: each operation as the walk meets it. -/
import Derived.Test.YthnjhhohfhnhgaaPvGo
namespace Go.Proofs.Ythnjhhohfhnhgaa
open Go Go.RowKit

section
variable {P : Program} {N : Nat} {ops : Array Oper} {o : Oper} {l : List Oper} {TL : List (Nat × PV)} {HL : List (Nat × Blk')} {n n' : Nat} {fp : List Fp} {K : List (Nat × PV) → List (Nat × Blk') → Nat → List Fp → Prop} {v : PV} {R W : List Nat} {d : Nat}
theorem OpOk.noGuard {T : Nat → PV} {H H' : Nat → Option Blk'} (h : OpOk P N { o with guard := none } T H n v H' n' R W) : OpOk P N o T H n v H' n' R W := ⟨h.le, h.frame, h.new, h.dst, h.sem⟩
theorem RL.want {b w : Bool} {j e : Nat} (hg : o.guard = some (j, w)) (he : (ops[j]?).bind (·.dst) = some e) (hb : Lk TL e (.bool b)) (hw : (b == w) = true) (h : RL P N ops ({ o with guard := none } :: l) TL HL n fp K) : RL P N ops (o :: l) TL HL n fp K := by
  rcases h with ⟨_, v, H', n', R, W, ho, hr⟩ | ⟨h1, _⟩
  · exact .inl ⟨gd_want hg he hb hw, v, H', n', R, W, ho.noGuard, hr⟩
  · cases h1
theorem tget_same {e : Nat} {v : PV} (h : Lk TL e v) : tget ((e, v) :: TL) = tget TL := by
  funext t
  unfold tget
  cases hq : Nat.beq t e with
  | false => cases TL <;> rfl
  | true =>
    have := Nat.eq_of_beq_eq_true hq
    subst this
    have h' : tget TL t = v := h
    cases TL <;> exact h'.symm
theorem RL.same {e : Nat} {u : PV} (h : Lk TL e u) (hr : RL P N ops l ((e, u) :: TL) HL n fp K) : RL P N ops l TL HL n fp K := by
  unfold RL at hr
  rw [tget_same h] at hr
  exact hr
theorem RL.gcase {b w : Bool} {j e : Nat} (hg : o.guard = some (j, w)) (he : (ops[j]?).bind (·.dst) = some e) (hb : Lk TL e (.bool b)) (hd : o.dst = some d) (hN : dstB o.dst N = true)
    (ht : b = w → RL P N ops ({ o with guard := none } :: l) ((e, .bool w) :: TL) HL n fp K) (hf : b = !w → RL P N ops l ((d, .junk) :: (e, .bool !w) :: TL) HL n (fp ++ [([], [])]) K) : RL P N ops (o :: l) TL HL n fp K := by
  by_cases h : b = w
  · exact RL.want hg he hb (by simp [h]) (RL.same (h ▸ hb) (ht h))
  · have h2 : b = !w := by cases b <;> cases w <;> simp_all
    refine RL.same (h2 ▸ hb) (RL.skip (b := !w) hg he Lk.here (by cases w <;> rfl) hd hN (hf h2))

variable {T : Nat → PV} {H : Nat → Option Blk'}
theorem oMove {x : Operand} (ho : o.op = .move x) (hN : dstB o.dst N = true) (hv : ev T x = v) : OpOk P N o T H n v H n [] [] := OpOk.move ho (dst_of hN) hv
theorem oAssign {x : Operand} (ho : o.op = .assign x) (hN : dstB o.dst N = true) (hv : ev T x = v) : OpOk P N o T H n v H n [] [] := OpOk.assign ho (dst_of hN) hv
theorem oPickT {x y z : Operand} (ho : o.op = .pick x y z) (hN : dstB o.dst N = true) (hb : ev T x = .bool true) (hv : ev T y = v) : OpOk P N o T H n v H n [] [] := OpOk.pick ho (dst_of hN) hb hv
theorem oPickF {x y z : Operand} (ho : o.op = .pick x y z) (hN : dstB o.dst N = true) (hb : ev T x = .bool false) (hv : ev T z = v) : OpOk P N o T H n v H n [] [] := OpOk.pick ho (dst_of hN) hb hv
theorem oBin {op : BinOp} {t t' : TypeId} {x y : Operand} {k : IntKind} {a b : Int} (ho : o.op = .binOp op t x y t') (hN : dstB o.dst N = true) (hx : ev T x = .int k a) (hy : ev T y = .int k b) (hv : binI op k a b = some v) : OpOk P N o T H n v H n [] [] := OpOk.bin ho (dst_of hN) hx hy hv
theorem oShift {op : BinOp} {t t' : TypeId} {x y : Operand} {k j : IntKind} {a b : Int} (ho : o.op = .binOp op t x y t') (hN : dstB o.dst N = true) (hx : ev T x = .int k a) (hy : ev T y = .int j b) (hv : binS op k a b = some v) : OpOk P N o T H n v H n [] [] := OpOk.shift ho (dst_of hN) hx hy hv
theorem oStr {op : BinOp} {t t' : TypeId} {x y : Operand} {a b : ByteArray} (ho : o.op = .binOp op t x y t') (hN : dstB o.dst N = true) (hx : ev T x = .str a) (hy : ev T y = .str b)
    (hv : (match op with | .eql => some (PV.bool (decide (a = b))) | .neq => some (.bool (!decide (a = b))) | _ => none) = some v) : OpOk P N o T H n v H n [] [] := OpOk.str ho (dst_of hN) hx hy hv
theorem oNot {t : TypeId} {x : Operand} {b : Bool} (ho : o.op = .unOp .not t x) (hN : dstB o.dst N = true) (hx : ev T x = .bool b) : OpOk P N o T H n (.bool (!b)) H n [] [] := OpOk.not ho (dst_of hN) hx
theorem oConv {s t : TypeId} {x : Operand} {d1 : TypeDesc} {s1 b1 s2 b2 : Nat} {k j : IntKind} {a : Int} (ho : o.op = .convert s t x) (hN : dstB o.dst N = true) [h1 : Ty P s d1 s1 b1] [h2 : Ty P t (.int k) s2 b2] (hx : ev T x = .int j a) : OpOk P N o T H n (.int k (k.wrap a)) H n [] [] := OpOk.convI ho (dst_of hN) hx
theorem oExtract {x : Operand} {i : Nat} {xs : List PV} (ho : o.op = .extract x i) (hN : dstB o.dst N = true) (hx : ev T x = .tup xs) (hv : xs[i]? = some v) : OpOk P N o T H n v H n [] [] := OpOk.extract ho (dst_of hN) hx hv
theorem oEqNil {op : BinOp} {t t' : TypeId} {x y : Operand} {p : PV} {neg q : Bool} {d : TypeDesc} {s b : Nat} (ho : o.op = .binOp op t x y t') (hN : dstB o.dst N = true) (hx : ev T x = p) (hop : op = if neg then .neq else .eql) [ht' : Ty P t d s b] (hq : nilOf H p = some (q, R)) (hy : y = .const (nilConst d)) (hk : nilKind d p = true) : OpOk P N o T H n (eqv neg q) H n R [] :=
  OpOk.eqNil neg ho hop (dst_of hN) (by rw [hx]; exact hq) hy (by rw [hx]; exact hk)
theorem oLoad {t : TypeId} {x : Operand} {p : PV} {d : TypeDesc} {s b : Nat} {xs : List PV} (ho : o.op = .load t x) (hN : dstB o.dst N = true) (hx : ev T x = p) [ht : Ty P t d s b] (hc : cellsAt H p = some (xs, R))
    (hv : (if aggD d then (if xs.length < s then none else some (PV.agg (xs.take s))) else xs[0]?) = some v) : OpOk P N o T H n v H n R [] := OpOk.load ho (dst_of hN) (by rw [hx]; exact hc) hv
theorem oLoad1 {t : TypeId} {x : Operand} {p : PV} {d : TypeDesc} {s b : Nat} {xs : List PV} (ho : o.op = .load t x) (hN : dstB o.dst N = true) (hx : ev T x = p) [ht : Ty P t d s b] (hc : cellsAt H p = some (xs, R)) (hd : aggD d = false) (hv : xs[0]? = some v) : OpOk P N o T H n v H n R [] :=
  OpOk.load ho (dst_of hN) (by rw [hx]; exact hc) (by rw [hd]; exact hv)
theorem oLoadA {t : TypeId} {x : Operand} {p : PV} {d : TypeDesc} {s b : Nat} {xs ys : List PV} (ho : o.op = .load t x) (hN : dstB o.dst N = true) (hx : ev T x = p) [ht : Ty P t d s b] (hc : cellsAt H p = some (xs, R)) (hd : aggD d = true) (hl : s ≤ xs.length) (hv : xs.take s = ys) : OpOk P N o T H n (.agg ys) H n R [] :=
  OpOk.load ho (dst_of hN) (by rw [hx]; exact hc) (by rw [hd, if_pos rfl, if_neg (by omega), hv])
theorem oLen {x : Operand} {ts : Array TypeId} {p : PV} {t : TypeId} {e : TypeId} {s b m : Nat} {xs : List PV} (ho : o.op = .call { callee := .builtin .len, args := #[x], argTypes := ts }) (hN : dstB o.dst N = true) (hts' : ts = #[t]) (hx : ev T x = p) [ht : Ty P t (.slice e) s b] (hc : elemsOf H p = some (m, xs, R)) : OpOk P N o T H n (.int .i64 m) H n R [] := OpOk.len ho (dst_of hN) hts' (by rw [hx]; exact hc)
theorem oLenStr {x : Operand} {ts : Array TypeId} {q : ByteArray} {t : TypeId} {s b : Nat} (ho : o.op = .call { callee := .builtin .len, args := #[x], argTypes := ts }) (hN : dstB o.dst N = true) (hts' : ts = #[t]) (hx : ev T x = .str q) [ht : Ty P t .string s b] : OpOk P N o T H n (.int .i64 q.size) H n [] [] := OpOk.lenStr ho (dst_of hN) hts' hx
theorem oLenArr {x : Operand} {ts : Array TypeId} {t : TypeId} {m : Nat} {e : TypeId} {s b : Nat} (ho : o.op = .call { callee := .builtin .len, args := #[x], argTypes := ts }) (hN : dstB o.dst N = true) (hts' : ts = #[t]) [ht : Ty P t (.array m e) s b] : OpOk P N o T H n (.int .i64 m) H n [] [] := OpOk.lenArr ho (dst_of hN) hts'
theorem oIndexAddr {t : TypeId} {x y : Operand} {p : PV} {e : TypeId} {s1 b1 : Nat} {d : TypeDesc} {s b : Nat} {k : IntKind} {i : Int} (ho : o.op = .indexAddr t x y) (hN : dstB o.dst N = true) [h1 : Ty P t (.slice e) s1 b1] [h2 : Ty P e d s b] (hx : ev T x = p) (hy : ev T y = .int k i) (h0 : 0 ≤ i) (hne : 0 < s) (hc : elemAt H s i.toNat p = some (v, R)) : OpOk P N o T H n v H n R [] :=
  OpOk.indexAddr ho (dst_of hN) hy h0 (by rw [hx]; exact hc) hne
/-- An element of a slice that is only read. -/
theorem oIndexRo {t : TypeId} {x y : Operand} {f : Bool} {m : Nat} {xs : List PV} {e : TypeId} {s1 b1 : Nat} {d : TypeDesc} {s b : Nat} {k : IntKind} {i : Int} (ho : o.op = .indexAddr t x y) (hN : dstB o.dst N = true) [h1 : Ty P t (.slice e) s1 b1] [h2 : Ty P e d s b] (hx : ev T x = .ro f m xs) (hy : ev T y = .int k i) (h0 : 0 ≤ i) (hm : i < m) (hne : 0 < s) (hl : xs.length = m * s) :
    OpOk P N o T H n (.rp (xs.drop (i.toNat * s))) H n [] [] := by
  refine OpOk.indexAddr ho (dst_of hN) hy h0 ?_ hne
  rw [hx]
  have : i.toNat < m := by omega
  have h3 : (i.toNat + 1) * s ≤ m * s := Nat.mul_le_mul_right s this
  rw [Nat.add_mul] at h3
  simp only [elemAt]
  rw [if_pos ⟨this, by omega⟩]
theorem oIndexOs {t : TypeId} {x y : Operand} {bi g off m : Nat} {blk : Blk'} {e : TypeId} {s1 b1 : Nat} {d : TypeDesc} {s b : Nat} {k : IntKind} {i : Int} (ho : o.op = .indexAddr t x y) (hN : dstB o.dst N = true) [h1 : Ty P t (.slice e) s1 b1] [h2 : Ty P e d s b] (hx : ev T x = .os bi g off m) (hy : ev T y = .int k i) (hb : H bi = some blk) (hg : g = blk.gen) (he : s = blk.es) (h0 : 0 ≤ i) (hm : i < m) (hne : 0 < s) :
    OpOk P N o T H n (.op bi g (off + i.toNat * s)) H n [bi] [] := by
  refine OpOk.indexAddr ho (dst_of hN) hy h0 ?_ hne
  rw [hx]
  simp only [elemAt, hb]
  rw [if_pos ⟨hg, by omega, he⟩]
theorem oIndexArr {t : TypeId} {x y : Operand} {p : PV} {m : Nat} {e : TypeId} {s1 b1 : Nat} {d : TypeDesc} {s b : Nat} {k : IntKind} {i : Int} (ho : o.op = .indexAddr t x y) (hN : dstB o.dst N = true) [h1 : Ty P t (.array m e) s1 b1] [h2 : Ty P e d s b] (hx : ev T x = p) (hy : ev T y = .int k i) (h0 : 0 ≤ i) (hm : i < m) (hc : pAdd H (i.toNat * s) p = some (v, R)) : OpOk P N o T H n v H n R [] :=
  OpOk.indexAddrArr ho (dst_of hN) hy h0 hm (by rw [hx]; exact hc)
theorem oFieldAddr {t : TypeId} {x : Operand} {i : Nat} {p : PV} {off : Nat} {ft : TypeId} {d : TypeDesc} {s b : Nat} (ho : o.op = .fieldAddr t x i) (hN : dstB o.dst N = true) [hf : Fld P t i off ft] [h2 : Ty P ft d s b] (hx : ev T x = p) (hne : 0 < s) (hc : pAdd H off p = some (v, R)) : OpOk P N o T H n v H n R [] := OpOk.fieldAddr ho (dst_of hN) hne (by rw [hx]; exact hc)
theorem oField {t : TypeId} {x : Operand} {i : Nat} {off : Nat} {ft : TypeId} {d : TypeDesc} {s b : Nat} {xs : List PV} (ho : o.op = .field t x i) (hN : dstB o.dst N = true) [hf : Fld P t i off ft] [h2 : Ty P ft d s b] (hx : ev T x = .agg xs) (hv : partOf d s off xs = some v) : OpOk P N o T H n v H n [] [] := OpOk.field ho (dst_of hN) hx hv
theorem oNilCheck {x : Operand} (ho : o.op = .nilCheck x) (hN : dstB o.dst N = true) (hx : ev T x = v) (hq : nilOf H v = some (false, R)) (hk : nnKind v = true) : OpOk P N o T H n v H n R [] := OpOk.nilCheck ho (dst_of hN) (by rw [hx]; exact hq) hx hk
theorem oCut {t : TypeId} {x : Operand} {lo hi : Option Operand} {p : PV} {e : TypeId} {s1 b1 : Nat} {d : TypeDesc} {s b l h : Nat} (ho : o.op = .slice t x lo hi none) (hN : dstB o.dst N = true) [h1 : Ty P t (.slice e) s1 b1] [h2 : Ty P e d s b] (hx : ev T x = p) (hl : bnd T 0 lo = some l) (hh : bnd T (lenPV p) hi = some h) (hc : cutOf H s l h p = some (v, R)) : OpOk P N o T H n v H n R [] :=
  OpOk.cut ho (dst_of hN) hl (by rw [hx]; exact hh) (by rw [hx]; exact hc)
theorem bnd_none {m : Nat} : bnd T m none = some m := rfl
theorem bnd_some {m : Nat} {x : Operand} {k : IntKind} {i : Int} (hx : ev T x = .int k i) (h : 0 ≤ i) : bnd T m (some x) = some i.toNat := by simp only [bnd, hx]; rw [if_pos h]
theorem cut_ro {s l h m : Nat} {f : Bool} {xs : List PV} (h1 : l ≤ h) (h2 : h ≤ m) : cutOf H s l h (.ro f m xs) = some (.ro (f && h == m) (h - l) ((xs.drop (l * s)).take ((h - l) * s)), []) := by
  simp only [cutOf]
  rw [if_pos ⟨h1, h2⟩]
theorem cut_os {s l h m bi g off : Nat} {blk : Blk'} (hb : H bi = some blk) (hg : g = blk.gen) (he : s = blk.es) (h1 : l ≤ h) (h2 : h ≤ m) : cutOf H s l h (.os bi g off m) = some (.os bi g (off + l * s) (h - l), [bi]) := by
  simp only [cutOf, hb]
  rw [if_pos ⟨hg, h1, h2, he⟩]
theorem oBox {t : TypeId} {x : Operand} (es : Nat) (hes : 0 < es) (ho : o.op = .box t x) (hN : dstB o.dst N = true) {y : PV} (hx : ev T x = y) (hw : whole y = true) {cs : List PV} (hc : cellsPV y = cs) : OpOk P N o T H n (.op n 0 0) (setH H n ⟨0, es, 0, cs⟩) (n + 1) [] [n] := hc ▸ OpOk.box es hes ho (dst_of hN) hx hw
theorem oAlloc {t : TypeId} (es : Nat) (hes : 0 < es) (ho : o.op = .alloc t) (hN : dstB o.dst N = true) {z : Value} [hz : TyZ P t z] {ys : List PV} (hy : zeroPV z = ys) : OpOk P N o T H n (.op n 0 0) (setH H n ⟨0, es, 0, ys⟩) (n + 1) [] [n] := OpOk.alloc es hes ho (dst_of hN) hy
theorem oMinMax {x y : Operand} {ts : Array TypeId} {k j : IntKind} {a b : Int} (mx : Bool) (ho : o.op = .call { callee := .builtin (if mx then .max else .min), args := #[x, y], argTypes := ts }) (hN : dstB o.dst N = true) (hx : ev T x = .int k a) (hy : ev T y = .int j b) : OpOk P N o T H n (.int k (if mx then max a b else min a b)) H n [] [] := OpOk.minmax mx ho (dst_of hN) hx hy
theorem oStrOf {t t' : TypeId} {x : Operand} {p : PV} {e : TypeId} {s1 b1 s2 b2 s3 b3 m : Nat} {xs : List UInt8} (ho : o.op = .convert t t' x) (hN : dstB o.dst N = true) [h1 : Ty P t (.slice e) s1 b1] [h2 : Ty P e (.int .u8) s2 b2] [h3 : Ty P t' .string s3 b3] (hx : ev T x = p) (hc : elemsOf H p = some (m, pb xs, R)) (hl : xs.length = m) : OpOk P N o T H n (.str (bstr xs)) H n R [] := OpOk.strOf ho (dst_of hN) (by rw [hx]; exact hc) hl

/-- What a call is handed: all closed. -/
theorem args_nil : SnapL H [] ([] : List PV) [] := .nil
theorem oCall {g : FuncId} [Ent P g] {f : Operand} {as : Array Operand} {ts : Array TypeId} {ys : List PV} {r : PV} (ho : o.op = .call { callee := .value f, args := as, argTypes := ts }) (hN : dstB o.dst N = true) (hf : ev T f = .fn (.func g) [] []) (hy : as.toList.map (ev T) = ys) (hc : Ctr P g ys r) [hcl : ClL ys] : OpOk P N o T H n r H n [] [] := by
  have := OpOk.call (P := P) (N := N) (T := T) (H := H) (n := n) [] ho (dst_of hN) hf (xs := ys) (by rw [List.nil_append, List.append_nil, hy]; exact hcl.out H []) hc
  have e : freeze' H [] = H := by funext i; simp [freeze']
  rwa [e] at this
theorem map_nil : ([] : List Operand).map (ev T) = [] := rfl
theorem map_cons {x : Operand} {l : List Operand} {y : PV} {ys : List PV} (h : ev T x = y) (hl : l.map (ev T) = ys) : (x :: l).map (ev T) = y :: ys := by rw [List.map_cons, h, hl]
/-! What a slot or an operand holds is looked up. -/
theorem lk_a {TL : List (Nat × PV)} {t : Nat} {v : PV} (h : Lk TL t v := by ((repeat (apply Lk.there; focus rfl)); exact Lk.here)) : Lk TL t v := h
theorem ev_a {T : Nat → PV} {x : Operand} {v : PV} (h : ev T x = v := by (first | (apply ev_tmp; ((repeat (apply Lk.there; focus rfl)); exact Lk.here)) | exact ev_cint | exact ev_cbool | exact ev_cnilp | exact ev_cnils | exact ev_func | exact ev_cstr | exact ev_cnilf | exact ev_cnili)) : ev T x = v := h
theorem evs_a {T : Nat → PV} {l : List Operand} {ys : List PV} (h : l.map (ev T) = ys := by ((repeat (apply map_cons; focus (first | (apply ev_tmp; ((repeat (apply Lk.there; focus rfl)); exact Lk.here)) | exact ev_cint | exact ev_cbool | exact ev_cnilp | exact ev_cnils | exact ev_func | exact ev_cstr | exact ev_cnilf | exact ev_cnili))); exact map_nil)) : l.map (ev T) = ys := h
theorem RL.wantA {b w : Bool} {j e : Nat} (h : RL P N ops ({ o with guard := none } :: l) TL HL n fp K) (hg : o.guard = some (j, w) := by rfl) (he : (ops[j]?).bind (·.dst) = some e := by rfl) (hb : Lk TL e (.bool b) := by ((repeat (apply Lk.there; focus rfl)); exact Lk.here)) (hw : (b == w) = true := by first | rfl | (simp; first | done | fail) | (simp; first | done | omega)) : RL P N ops (o :: l) TL HL n fp K := RL.want hg he hb hw h
theorem RL.skipA {b w : Bool} {j e d : Nat} (hr : RL P N ops l ((d, .junk) :: TL) HL n (fp ++ [([], [])]) K) (hg : o.guard = some (j, w) := by rfl) (he : (ops[j]?).bind (·.dst) = some e := by rfl) (hb : Lk TL e (.bool b) := by ((repeat (apply Lk.there; focus rfl)); exact Lk.here)) (hw : (b == w) = false := by first | rfl | (simp; first | done | fail)) (hd : o.dst = some d := by rfl) (hN : dstB o.dst N = true := by rfl) : RL P N ops (o :: l) TL HL n fp K := RL.skip hg he hb hw hd hN hr
theorem RL.qa {v : PV} {R W : List Nat} {n' d : Nat} (h : OpOk P N o (tget TL) (hget HL) n v (hget HL) n' R W) (hr : RL P N ops l ((d, v) :: TL) HL n' (fp ++ [(R, W)]) K) (hg : o.guard = none := by rfl) (hd : o.dst = some d := by rfl) : RL P N ops (o :: l) TL HL n fp K := RL.q (gd_none hg) hd h hr
theorem RL.wa {v : PV} {R W : List Nat} {n' d i : Nat} {b : Blk'} (h : OpOk P N o (tget TL) (hget HL) n v (setH (hget HL) i b) n' R W) (hr : RL P N ops l ((d, v) :: TL) ((i, b) :: HL) n' (fp ++ [(R, W)]) K) (hg : o.guard = none := by rfl) (hd : o.dst = some d := by rfl) : RL P N ops (o :: l) TL HL n fp K := RL.w (gd_none hg) hd h hr
theorem RL.w0a {v : PV} {R W : List Nat} {n' i : Nat} {b : Blk'} (h : OpOk P N o (tget TL) (hget HL) n v (setH (hget HL) i b) n' R W) (hr : RL P N ops l TL ((i, b) :: HL) n' (fp ++ [(R, W)]) K) (hg : o.guard = none := by rfl) (hd : o.dst = none := by rfl) : RL P N ops (o :: l) TL HL n fp K := RL.w0 (gd_none hg) hd h hr
end
section
variable {R0 : Option Nat} {P : Program} {N k0 : Nat} {Q : Exit → LSt → Prop} {TL : List (Nat × PV)} {HL : List (Nat × Blk')} {n : Nat}
theorem lw_condT {c : Operand} {d e : Code} (hc : ev (tget TL) c = .bool true) (h : lwp R0 P N k0 d Q (St' TL HL n)) : lwp R0 P N k0 (.cond c d e) Q (St' TL HL n) := lwp_cond hc (fun _ => h) (fun h => (nomatch h))
theorem lw_condF {c : Operand} {d e : Code} (hc : ev (tget TL) c = .bool false) (h : lwp R0 P N k0 e Q (St' TL HL n)) : lwp R0 P N k0 (.cond c d e) Q (St' TL HL n) := lwp_cond hc (fun h => (nomatch h)) (fun _ => h)
/-- Slots and blocks that are told on. -/
theorem less_lists {TL TL' : List (Nat × PV)} {HL HL' : List (Nat × Blk')} {n n' : Nat} (hT : ∀ p ∈ TL', Lk TL p.1 p.2) (hH : ∀ p ∈ HL', hget HL p.1 = some p.2) (hn : n ≤ n') (hTn : ∀ i, tget TL' i = .junk ∨ ∃ p ∈ TL', p.1 = i ∧ tget TL' i = p.2) (hHn : ∀ i b, hget HL' i = some b → ∃ p ∈ HL', p.1 = i ∧ p.2 = b) : Less (St' TL HL n) (St' TL' HL' n') := by
  refine ⟨fun i => ?_, fun i b hb => ?_, hn⟩
  · intro c v hv
    show Rz c (tget TL' i) v
    rcases hTn i with h | ⟨p, hp, h1, h2⟩
    · rw [h]; simp [Rz]
    · have := hT p hp
      rw [h1] at this
      rw [h2.trans this.symm]
      exact hv
  · obtain ⟨p, hp, rfl, rfl⟩ := hHn i b hb
    exact hH p hp
theorem tget_or : ∀ (TL : List (Nat × PV)) (i : Nat), tget TL i = .junk ∨ ∃ p ∈ TL, p.1 = i ∧ tget TL i = p.2
  | [], i => .inl rfl
  | (d, v) :: l, i => by
    unfold tget
    cases hq : Nat.beq i d with
    | true => exact .inr ⟨(d, v), by simp, (Nat.eq_of_beq_eq_true hq).symm, rfl⟩
    | false =>
      rcases tget_or l i with h | ⟨p, hp, h1, h2⟩
      · exact .inl h
      · exact .inr ⟨p, by simp [hp], h1, h2⟩
theorem hget_or : ∀ (HL : List (Nat × Blk')) (i : Nat) (b : Blk'), hget HL i = some b → ∃ p ∈ HL, p.1 = i ∧ p.2 = b
  | [], i, b, h => by cases h
  | (d, v) :: l, i, b, h => by
    unfold hget at h
    cases hq : Nat.beq i d with
    | true =>
      rw [hq] at h
      injection h with h
      exact ⟨(d, v), by simp, (Nat.eq_of_beq_eq_true hq).symm, h⟩
    | false =>
      rw [hq] at h
      obtain ⟨p, hp, h1, h2⟩ := hget_or l i b h
      exact ⟨p, by simp [hp], h1, h2⟩
theorem less_of {TL TL' : List (Nat × PV)} {HL HL' : List (Nat × Blk')} {n n' : Nat} (hT : ∀ p ∈ TL', Lk TL p.1 p.2) (hH : ∀ p ∈ HL', hget HL p.1 = some p.2) (hn : n ≤ n') : Less (St' TL HL n) (St' TL' HL' n') := less_lists hT hH hn (tget_or TL') (hget_or HL')
theorem all_nil {α : Type} {p : α → Prop} : ∀ x ∈ ([] : List α), p x := by simp
theorem all_cons {α : Type} {p : α → Prop} {a : α} {l : List α} (h : p a) (hl : ∀ x ∈ l, p x) : ∀ x ∈ a :: l, p x := by
  intro x hx
  rcases List.mem_cons.1 hx with rfl | hx
  · exact h
  · exact hl x hx
theorem ctr_go {g : FuncId} {fn : Func} {c : Code} {xs : List PV} {r : PV} (N : Nat) (TL : List (Nat × PV)) (hf : P.funcs[g]? = some fn) (hb : fn.body = some c) (hN : fn.ntmps = N) (hx : Nat.ble xs.length N = true) (hT : ∀ p ∈ TL, xs.getD p.1 .junk = p.2)
    (h : lwp none P N 0 c (fun e t => (e = .normal ∨ e = .ret) ∧ ∃ r0 vis, ResOk P N fn t r0 ∧ Snap t.H vis r0 r) (St' TL [] 0)) : Ctr P g xs r := by
  refine ctr_of_lwp N hf hb hN (Nat.le_of_ble_eq_true hx) (lwp_less (t := St' TL [] 0) ⟨fun i c v hv => ?_, fun i b hb => (by cases hb), Nat.le_refl _⟩ h)
  show Rz c (tget TL i) v
  rcases tget_or TL i with h | ⟨p, hp, rfl, h2⟩
  · rw [h]; simp [Rz]
  · rw [h2.trans (hT p hp).symm]; exact hv
end
theorem get_map {α : Type} (z : α) {f : α → PV} {l : List α} {j : Nat} (h : j < l.length) : ((l.map f).drop j)[0]? = some (f (l.getD j z)) := by
  rw [List.getElem?_drop, Nat.add_zero, List.getElem?_map, List.getElem?_eq_getElem h, List.getD_eq_getElem?_getD, List.getElem?_eq_getElem h]
  rfl
theorem get_mapI {α : Type} (z : α) {f : α → PV} {l : List α} {k : Nat} (h : k < l.length) : ((l.map f).drop ((k : Int).toNat * 1))[0]? = some (f (l.getD k z)) := by
  have := get_map z (f := f) h
  simpa using this
theorem wrap_i64 {a : Int} (h1 : -9223372036854775808 ≤ a) (h2 : a ≤ 9223372036854775807) : IntKind.wrap .i64 a = a := by rw [IntKind.wrap_i64]; omega
theorem wrap_u64 {a : Int} (h1 : 0 ≤ a) (h2 : a ≤ 18446744073709551615) : IntKind.wrap .u64 a = a := by
  simp [IntKind.wrap, IntKind.bits, IntKind.signed]; omega
theorem wrap_u32 {a : Int} (h1 : 0 ≤ a) (h2 : a ≤ 4294967295) : IntKind.wrap .u32 a = a := by
  simp [IntKind.wrap, IntKind.bits, IntKind.signed]; omega
theorem wrap_u8 {a : Int} (h1 : 0 ≤ a) (h2 : a ≤ 255) : IntKind.wrap .u8 a = a := by
  simp [IntKind.wrap, IntKind.bits, IntKind.signed]; omega
theorem wrap_u64m (a : Int) : IntKind.wrap .u64 a = a % 18446744073709551616 := by simp [IntKind.wrap, IntKind.bits, IntKind.signed]
theorem wrap_u32m (a : Int) : IntKind.wrap .u32 a = a % 4294967296 := by simp [IntKind.wrap, IntKind.bits, IntKind.signed]
theorem wrap_u8m (a : Int) : IntKind.wrap .u8 a = a % 256 := by simp [IntKind.wrap, IntKind.bits, IntKind.signed]
section
variable {P : Program} {N : Nat} {o : Oper} {T : Nat → PV} {H : Nat → Option Blk'} {n : Nat}
/-- A sum, a difference, a product of int that is one: no wrapping. -/
theorem oArith {op : BinOp} {t t' : TypeId} {x y : Operand} {a b r : Int} (ho : o.op = .binOp op t x y t') (hN : dstB o.dst N = true) (hx : ev T x = .int .i64 a) (hy : ev T y = .int .i64 b) (hv : binI op .i64 a b = some (.int .i64 (IntKind.wrap .i64 r))) (h1 : -9223372036854775808 ≤ r) (h2 : r ≤ 9223372036854775807) : OpOk P N o T H n (.int .i64 r) H n [] [] := by
  have := OpOk.bin (P := P) (H := H) (n := n) ho (dst_of hN) hx hy hv
  rwa [wrap_i64 h1 h2] at this
theorem oQuoN {op : BinOp} {t t' : TypeId} {x y : Operand} {k : IntKind} {a b : Int} (ho : o.op = .binOp op t x y t') (hop : op = .quo) (hN : dstB o.dst N = true) (hx : ev T x = .int k a) (hy : ev T y = .int k b) (ha : 0 ≤ a) (hb : 0 < b) (hw : IntKind.wrap k (a / b) = a / b) : OpOk P N o T H n (.int k (a / b)) H n [] [] := by
  subst hop
  refine OpOk.bin ho (dst_of hN) hx hy ?_
  have hb' : ¬ b = 0 := by omega
  simp only [binI, if_neg hb', Int.tdiv_eq_ediv_of_nonneg ha, hw]
theorem oRemN {op : BinOp} {t t' : TypeId} {x y : Operand} {k : IntKind} {a b : Int} (ho : o.op = .binOp op t x y t') (hop : op = .rem) (hN : dstB o.dst N = true) (hx : ev T x = .int k a) (hy : ev T y = .int k b) (ha : 0 ≤ a) (hb : 0 < b) : OpOk P N o T H n (.int k (a % b)) H n [] [] := by
  subst hop
  refine OpOk.bin ho (dst_of hN) hx hy ?_
  have hb' : ¬ b = 0 := by omega
  simp only [binI, if_neg hb', Int.tmod_eq_emod_of_nonneg ha]
theorem oConvI {s t : TypeId} {x : Operand} {d1 : TypeDesc} {s1 b1 s2 b2 : Nat} {k j : IntKind} {a : Int} (ho : o.op = .convert s t x) (hN : dstB o.dst N = true) [h1 : Ty P s d1 s1 b1] [h2 : Ty P t (.int k) s2 b2] (hx : ev T x = .int j a) (hw : IntKind.wrap k a = a) : OpOk P N o T H n (.int k a) H n [] [] := by
  have := oConv (P := P) (H := H) (n := n) ho hN hx
  rwa [hw] at this
end
theorem res_tmp {P : Program} {N t : Nat} {TL : List (Nat × PV)} {HL : List (Nat × Blk')} {n : Nat} {r : PV} (h : Lk TL t r) : VarOk P N (.tmp t) (St' TL HL n) r := VarOk.tmp h
/-- One result, closed. -/
theorem ret1 {P : Program} {N t : Nat} {fn : Func} {TL : List (Nat × PV)} {HL : List (Nat × Blk')} {n : Nat} {r : PV} (h : fn.results = #[.tmp t]) (hl : Lk TL t r) [hc : Cl r] : ∃ r0 vis, ResOk P N fn (St' TL HL n) r0 ∧ Snap (St' TL HL n).H vis r0 r :=
  ⟨r, [], .one h (res_tmp hl), hc.out _ _⟩
theorem ret2 {P : Program} {N t u : Nat} {fn : Func} {TL : List (Nat × PV)} {HL : List (Nat × Blk')} {n : Nat} {r q : PV} (h : fn.results = #[.tmp t, .tmp u]) (hl : Lk TL t r) (hl2 : Lk TL u q) [hc : Cl r] [hc2 : Cl q] : ∃ r0 vis, ResOk P N fn (St' TL HL n) r0 ∧ Snap (St' TL HL n).H vis r0 (.tup [r, q]) :=
  ⟨.tup [r, q], [], .many [.tmp t, .tmp u] h rfl (Nat.le_refl 2) (fun i x hx => by
    match i, hx with
    | 0, hx => injection hx with hx; subst hx; exact res_tmp hl
    | 1, hx => injection hx with hx; subst hx; exact res_tmp hl2), Cl.out _ _⟩
end Go.Proofs.Ythnjhhohfhnhgaa
