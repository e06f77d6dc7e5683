/- The logic of pure values: the operations that only read and reckon. -/
import Derived.Test.YthnjhhohfhnhgaaPvCall
import Derived.IntWalk
import Derived.Laws.Strings
namespace Go.Proofs.Ythnjhhohfhnhgaa
open Go Go.RowKit

def aggD : TypeDesc → Bool
  | .struct _ | .array _ _ => true
  | _ => false
/-- What the program's table says of a type: what it is, how many cells and bytes it takes. -/
class Ty (P : Program) (t : TypeId) (d : outParam TypeDesc) (s : outParam Nat) (b : outParam Nat) : Prop where
  und : P.underlying t = some d
  info : (P.info? t).map (fun i => (i.size, i.bytes)) = some (s, b)
class TyZ (P : Program) (t : TypeId) (z : outParam Value) : Prop where
  zero : (P.info? t).bind (·.zero) = some z

theorem run_und {P : Program} {t : TypeId} {d : TypeDesc} (h : P.underlying t = some d) (w : World) : (underlying t).run P w = .ok d w := by
  unfold underlying
  rw [Sem.run_bind]
  show ((match P.underlying t with | some d => pure d | none => stuck "no such type" : Sem TypeDesc)).run P w = _
  rw [h]
  rfl
theorem run_isAgg {P : Program} {t : TypeId} {d : TypeDesc} (h : P.underlying t = some d) (w : World) : (isAgg t).run P w = .ok (aggD d) w := by
  unfold isAgg
  rw [Sem.run_bind, run_und h]
  cases d <;> rfl
theorem Ty.size' {P : Program} {t : TypeId} {d : TypeDesc} {s b : Nat} (h : Ty P t d s b) (w : World) : (sizeOf t).run P w = .ok s w := by
  obtain ⟨i, h1, h2⟩ := Option.map_eq_some_iff.1 h.info
  injection h2 with h2 h3
  have h4 : (typeInfo t).run P w = .ok i w := by
    unfold typeInfo
    rw [Sem.run_bind]
    show ((match P.info? t with | some i => pure i | none => stuck "no such type" : Sem TypeInfo)).run P w = _
    rw [h1]
    rfl
  unfold sizeOf
  rw [Sem.run_bind, h4, ← h2]
  rfl

section
variable {P : Program} {N : Nat} {o : Oper} {T : Nat → PV} {H : Nat → Option Blk'} {n : Nat}
theorem looks_of {op : Op} (ho : o.op = op) : looks o = tmpsOf op.operands.toList := by unfold looks; rw [ho]
theorem OpOk.move {x : Operand} (ho : o.op = .move x) (hd : ∀ d, o.dst = some d → d < N) {v : PV} (hv : ev T x = v) : OpOk P N o T H n v H n [] [] := by
  refine OpOk.quiet [] hd fun c a T2 hs ht hT _ => ⟨a.eval x, by simp [execOp, ho], ?_⟩
  rw [looks_of ho] at hT
  rw [← hv, ← ev_same hT (x := x) (by simp [Op.operands])]
  exact ev_rz ht x
theorem OpOk.assign {x : Operand} (ho : o.op = .assign x) (hd : ∀ d, o.dst = some d → d < N) {v : PV} (hv : ev T x = v) : OpOk P N o T H n v H n [] [] := by
  refine OpOk.quiet [] hd fun c a T2 hs ht hT _ => ⟨a.eval x, by simp [execOp, ho], ?_⟩
  rw [looks_of ho] at hT
  rw [← hv, ← ev_same hT (x := x) (by simp [Op.operands])]
  exact ev_rz ht x
theorem OpOk.pick {x y z : Operand} (ho : o.op = .pick x y z) (hd : ∀ d, o.dst = some d → d < N) {b : Bool} (hb : ev T x = .bool b) {v : PV} (hv : (if b then ev T y else ev T z) = v) : OpOk P N o T H n v H n [] [] := by
  refine OpOk.quiet [] hd fun c a T2 hs ht hT _ => ⟨if b then a.eval y else a.eval z, ?_, ?_⟩
  all_goals rw [looks_of ho] at hT
  · have := ev_rz ht x
    rw [ev_same hT (x := x) (by simp [Op.operands]), hb] at this
    simp only [Rz] at this
    simp [execOp, ho, this, asBool]
  · rw [← hv]
    cases b
    · rw [← ev_same hT (x := z) (by simp [Op.operands])]; exact ev_rz ht z
    · rw [← ev_same hT (x := y) (by simp [Op.operands])]; exact ev_rz ht y

/-- Two whole numbers. -/
def binI (op : BinOp) (k : IntKind) (a b : Int) : Option PV :=
  match op with
  | .add => some (.int k (k.wrap (a + b)))
  | .sub => some (.int k (k.wrap (a - b)))
  | .mul => some (.int k (k.wrap (a * b)))
  | .quo => if b = 0 then none else some (.int k (k.wrap (a.tdiv b)))
  | .rem => if b = 0 then none else some (.int k (a.tmod b))
  | .and => some (.int k (k.wrap (BitVec.ofInt k.bits a &&& BitVec.ofInt k.bits b).toNat))
  | .or => some (.int k (k.wrap (BitVec.ofInt k.bits a ||| BitVec.ofInt k.bits b).toNat))
  | .xor => some (.int k (k.wrap (BitVec.ofInt k.bits a ^^^ BitVec.ofInt k.bits b).toNat))
  | .andNot => some (.int k (k.wrap (BitVec.ofInt k.bits a &&& ~~~ BitVec.ofInt k.bits b).toNat))
  | .eql => some (.bool (decide (a = b)))
  | .neq => some (.bool (!decide (a = b)))
  | .lss => some (.bool (decide (a < b)))
  | .leq => some (.bool (decide (a ≤ b)))
  | .gtr => some (.bool (decide (b < a)))
  | .geq => some (.bool (decide (b ≤ a)))
  | _ => none
def binS (op : BinOp) (k : IntKind) (a b : Int) : Option PV :=
  if b < 0 then none else
  match op with
  | .shl => some (.int k (k.wrap (a * 2 ^ min b.toNat k.bits)))
  | .shr => some (.int k (a.fdiv (2 ^ min b.toNat k.bits)))
  | _ => none
theorem eqGuard_int {op : BinOp} {t : TypeId} {x y : Operand} {k j : IntKind} {a b : Int} {w : World} : (eqGuard op t x y (.int k a) (.int j b)).run P w = .ok () w := by
  unfold eqGuard
  split <;> rfl
theorem OpOk.bin {op : BinOp} {t t' : TypeId} {x y : Operand} (ho : o.op = .binOp op t x y t') (hd : ∀ d, o.dst = some d → d < N) {k : IntKind} {a b : Int} (hx : ev T x = .int k a) (hy : ev T y = .int k b) {v : PV} (hv : binI op k a b = some v) : OpOk P N o T H n v H n [] [] := by
  refine OpOk.quiet [] hd fun c ac T2 hs ht hT _ => ?_
  rw [looks_of ho] at hT
  have h1 := ev_rz ht x
  have h2 := ev_rz ht y
  rw [ev_same hT (x := x) (by simp [Op.operands]), hx] at h1
  rw [ev_same hT (x := y) (by simp [Op.operands]), hy] at h2
  simp only [Rz] at h1 h2
  have key : ∃ u, (binOp op t (.int k a) (.int k b)).run P c.w = .ok u c.w ∧ Rz c v u := by
    cases op <;> simp only [binI] at hv <;> try (first | (cases hv; done) | (injection hv with hv; subst hv))
    all_goals simp only [Rz, binOp, ne_eq, not_true_eq_false, if_false]
    case quo =>
      split at hv
      · cases hv
      · rename_i hb
        injection hv with hv; subst hv
        simp [Op.intDiv, hb, Rz]
    case rem =>
      split at hv
      · cases hv
      · rename_i hb
        injection hv with hv; subst hv
        simp [Op.intDiv, hb, Rz]
    case eql => refine ⟨_, rfl, ?_⟩; rfl
    case neq => refine ⟨_, rfl, ?_⟩; rfl
    all_goals exact ⟨_, rfl, rfl⟩
  obtain ⟨u, h3, h4⟩ := key
  refine ⟨u, ?_, h4⟩
  simp [execOp, ho, h1, h2, eqGuard_int, h3]
theorem OpOk.shift {op : BinOp} {t t' : TypeId} {x y : Operand} (ho : o.op = .binOp op t x y t') (hd : ∀ d, o.dst = some d → d < N) {k j : IntKind} {a b : Int} (hx : ev T x = .int k a) (hy : ev T y = .int j b) {v : PV} (hv : binS op k a b = some v) : OpOk P N o T H n v H n [] [] := by
  refine OpOk.quiet [] hd fun c ac T2 hs ht hT _ => ?_
  rw [looks_of ho] at hT
  have h1 := ev_rz ht x
  have h2 := ev_rz ht y
  rw [ev_same hT (x := x) (by simp [Op.operands]), hx] at h1
  rw [ev_same hT (x := y) (by simp [Op.operands]), hy] at h2
  simp only [Rz] at h1 h2
  have key : ∃ u, (binOp op t (.int k a) (.int j b)).run P c.w = .ok u c.w ∧ Rz c v u := by
    unfold binS at hv
    split at hv
    · cases hv
    · rename_i hb
      cases op <;> simp only at hv <;> first | (cases hv; done) | (injection hv with hv; subst hv; simp only [binOp, Op.shift, if_neg hb]; exact ⟨_, rfl, rfl⟩)
  obtain ⟨u, h3, h4⟩ := key
  refine ⟨u, ?_, h4⟩
  simp [execOp, ho, h1, h2, eqGuard_int, h3]
theorem OpOk.str {op : BinOp} {t t' : TypeId} {x y : Operand} (ho : o.op = .binOp op t x y t') (hd : ∀ d, o.dst = some d → d < N) {a b : ByteArray} (hx : ev T x = .str a) (hy : ev T y = .str b) {v : PV}
    (hv : (match op with | .eql => some (PV.bool (decide (a = b))) | .neq => some (.bool (!decide (a = b))) | _ => none) = some v) : OpOk P N o T H n v H n [] [] := by
  refine OpOk.quiet [] hd fun c ac T2 hs ht hT _ => ?_
  rw [looks_of ho] at hT
  have h1 := ev_rz ht x
  have h2 := ev_rz ht y
  rw [ev_same hT (x := x) (by simp [Op.operands]), hx] at h1
  rw [ev_same hT (x := y) (by simp [Op.operands]), hy] at h2
  simp only [Rz] at h1 h2
  have he : (a.toList == b.toList) = decide (a = b) := by
    rw [ByteArray.toList_eq, ByteArray.toList_eq]
    by_cases h : a = b
    · rw [decide_eq_true h, h]; simp
    · rw [decide_eq_false h]
      refine beq_eq_false_iff_ne.2 fun h' => h ?_
      obtain ⟨a⟩ := a
      obtain ⟨b⟩ := b
      congr
      exact Array.toList_inj.1 h'
  cases op <;> simp only at hv <;> first | (cases hv; done) | (injection hv with hv; subst hv; exact ⟨_, by simp [execOp, ho, h1, h2, eqGuard, binOp, Op.stringOp, he]; rfl, by simp [Rz]⟩)
theorem OpOk.not {t : TypeId} {x : Operand} (ho : o.op = .unOp .not t x) (hd : ∀ d, o.dst = some d → d < N) {b : Bool} (hx : ev T x = .bool b) : OpOk P N o T H n (.bool (!b)) H n [] [] := by
  refine OpOk.quiet [] hd fun c ac T2 hs ht hT _ => ?_
  rw [looks_of ho] at hT
  have h1 := ev_rz ht x
  rw [ev_same hT (x := x) (by simp [Op.operands]), hx] at h1
  simp only [Rz] at h1
  exact ⟨.bool !b, by simp [execOp, ho, h1, Op.unary], rfl⟩
theorem OpOk.neg {t : TypeId} {x : Operand} (ho : o.op = .unOp .neg t x) (hd : ∀ d, o.dst = some d → d < N) {k : IntKind} {a : Int} (hx : ev T x = .int k a) : OpOk P N o T H n (.int k (k.wrap (0 - a))) H n [] [] := by
  refine OpOk.quiet [] hd fun c ac T2 hs ht hT _ => ?_
  rw [looks_of ho] at hT
  have h1 := ev_rz ht x
  rw [ev_same hT (x := x) (by simp [Op.operands]), hx] at h1
  simp only [Rz] at h1
  exact ⟨.int k (k.wrap (0 - a)), by simp [execOp, ho, h1, Op.unary, Op.intArith], rfl⟩
theorem OpOk.convI {s t : TypeId} {x : Operand} (ho : o.op = .convert s t x) (hd : ∀ d, o.dst = some d → d < N) {d1 : TypeDesc} {s1 b1 s2 b2 : Nat} {k j : IntKind} [h1 : Ty P s d1 s1 b1] [h2 : Ty P t (.int k) s2 b2] {a : Int} (hx : ev T x = .int j a) : OpOk P N o T H n (.int k (k.wrap a)) H n [] [] := by
  refine OpOk.quiet [] hd fun c ac T2 hs ht hT _ => ?_
  rw [looks_of ho] at hT
  have h3 := ev_rz ht x
  rw [ev_same hT (x := x) (by simp [Op.operands]), hx] at h3
  simp only [Rz] at h3
  refine ⟨.int k (k.wrap a), ?_, rfl⟩
  simp [execOp, ho, h3, convert, run_und h1.und, run_und h2.und, Conv.intToInt]
theorem OpOk.extract {x : Operand} {i : Nat} (ho : o.op = .extract x i) (hd : ∀ d, o.dst = some d → d < N) {xs : List PV} (hx : ev T x = .tup xs) {v : PV} (hv : xs[i]? = some v) : OpOk P N o T H n v H n [] [] := by
  refine OpOk.quiet [] hd fun c ac T2 hs ht hT _ => ?_
  rw [looks_of ho] at hT
  have h3 := ev_rz ht x
  rw [ev_same hT (x := x) (by simp [Op.operands]), hx] at h3
  obtain ⟨cs, h4, h5⟩ := h3
  obtain ⟨u, h6, h7⟩ := ((RzL_iff _ _).1 h5).2 i v hv
  refine ⟨u, ?_, h7⟩
  have : cs[i]? = some u := by simpa using h6
  simp [execOp, ho, h4, Instr.extract, this]

/-- Is it nil? Of a pointer, a slice, a function; own ones stand in vis. -/
def nilOf (H : Nat → Option Blk') : PV → Option (Bool × List Nat)
  | .nilp | .nils | .nilf => some (true, [])
  | .ro _ (_ + 1) _ | .rp .. | .fn .. => some (false, [])
  | .os b g _ _ | .op b g _ => match H b with
    | some blk => if g = blk.gen then some (false, [b]) else none
    | none => none
  | _ => none
def eqv (neg : Bool) (b : Bool) : PV := .bool (if neg then !b else b)
def nilConst : TypeDesc → Value
  | .pointer _ => .pointer none
  | .slice _ => .slice none 0 0
  | _ => .nilFunc
def nilKind : TypeDesc → PV → Bool
  | .pointer _, .nilp | .pointer _, .rp _ | .pointer _, .op .. | .slice _, .nils | .slice _, .ro .. | .slice _, .os .. | .func .., .nilf | .func .., .fn .. => true
  | _, _ => false
theorem OpOk.eqNil {op : BinOp} {t t' : TypeId} {x y : Operand} (neg : Bool) (ho : o.op = .binOp op t x y t') (hop : op = if neg then .neq else .eql) (hd : ∀ d, o.dst = some d → d < N) {d : TypeDesc} {s b : Nat} [ht' : Ty P t d s b]
    {q : Bool} {R : List Nat} (hx : nilOf H (ev T x) = some (q, R)) (hy : y = .const (nilConst d)) (hxk : nilKind d (ev T x) = true) :
    OpOk P N o T H n (eqv neg q) H n R [] := by
  refine OpOk.quiet R hd fun c ac T2 hs ht hT hR => ?_
  rw [looks_of ho] at hT
  have h1 := ev_rz ht x
  rw [ev_same hT (x := x) (by simp [Op.operands])] at h1
  have hyv : ac.eval y = nilConst d := by rw [hy]; rfl
  have key : (Op.equal t (ac.eval x) (ac.eval y)).run P c.w = .ok q c.w ∧ (∀ k n, ac.eval x ≠ .int k n) ∧ (∀ k n, ac.eval x ≠ .float k n) ∧ (∀ k n m, ac.eval x ≠ .complex k n m) ∧ (∀ s, ac.eval x ≠ .string s) ∧ (ac.eval x ≠ .nilIface) ∧ (∀ s, ac.eval x ≠ .agg s) := by
    have hu := ht'.und
    unfold Op.equal Op.maxDepth
    rw [show (10000 : Nat) = 9999 + 1 from rfl]
    unfold Op.equalIn
    rw [hyv]
    generalize ev T x = px at *
    cases d <;> simp only [nilKind, Bool.false_eq_true] at hxk
    all_goals cases px <;> simp only [Bool.false_eq_true] at hxk
    all_goals simp only [nilOf] at hx
    all_goals simp only [nilConst]
    case pointer.nilp e => simp only [Rz] at h1; rw [h1, Sem.run_bind, run_und hu]; injection hx with hx; injection hx with hx _; subst hx; simp
    case pointer.rp e xs => obtain ⟨a, h1, _⟩ := h1; rw [h1, Sem.run_bind, run_und hu]; injection hx with hx; injection hx with hx _; subst hx; simp
    case slice.nils e => simp only [Rz] at h1; rw [h1, Sem.run_bind, run_und hu]; injection hx with hx; injection hx with hx _; subst hx; simp
    case slice.ro e f m xs =>
      cases m with
      | zero => cases hx
      | succ m =>
        obtain ⟨A, cap, h1, h2, _, h3, _⟩ := h1
        cases A with
        | none => have := h3 rfl; omega
        | some ad => rw [h1, Sem.run_bind, run_und hu]; injection hx with hx; injection hx with hx _; subst hx; simp
    case func.nilf e => simp only [Rz] at h1; rw [h1, Sem.run_bind, run_und hu]; injection hx with hx; injection hx with hx _; subst hx; simp
    case func.fn e f m xs => obtain ⟨a, cap, h1, _⟩ := h1; rw [h1, Sem.run_bind, run_und hu]; injection hx with hx; injection hx with hx _; subst hx; simp
    case slice.os e b g off m =>
      split at hx
      · rename_i blk hb
        split at hx
        · rename_i hg
          injection hx with hx; injection hx with hx hx2; subst hx; subst hx2
          obtain ⟨_, a, cap, h1, _⟩ := (h1.2.2 blk ((hR b (by simp)).trans hb)).2 hg
          rw [h1, Sem.run_bind, run_und hu]
          simp
        · cases hx
      · cases hx
    case pointer.op e b g off =>
      split at hx
      · rename_i blk hb
        split at hx
        · rename_i hg
          injection hx with hx; injection hx with hx hx2; subst hx; subst hx2
          have h1 := ((h1.2.2 blk ((hR b (by simp)).trans hb)).2 hg).2
          rw [h1, Sem.run_bind, run_und hu]
          simp
        · cases hx
      · cases hx
  obtain ⟨key, n1, n2, n3, n4, n5, n6⟩ := key
  have hg : (eqGuard op t x y (ac.eval x) (ac.eval y)).run P c.w = .ok () c.w := by
    unfold eqGuard
    generalize ac.eval x = vx at *
    subst hop
    cases vx <;> first | (exact absurd rfl n5) | (exact absurd rfl (n6 _)) | (cases neg <;> rfl)
  have hb : (binOp op t (ac.eval x) (ac.eval y)).run P c.w = .ok (.bool (if neg then !q else q)) c.w := by
    rw [hop]
    generalize ac.eval x = vx at *
    cases neg
    · cases vx <;> first | (exact absurd rfl (n1 _ _)) | (exact absurd rfl (n2 _ _)) | (exact absurd rfl (n3 _ _ _)) | (exact absurd rfl (n4 _)) | (simp [binOp, key])
    · cases vx <;> first | (exact absurd rfl (n1 _ _)) | (exact absurd rfl (n2 _ _)) | (exact absurd rfl (n3 _ _ _)) | (exact absurd rfl (n4 _)) | (simp [binOp, key])
  refine ⟨.bool (if neg then !q else q), ?_, rfl⟩
  simp [execOp, ho, hg, hb]
end
end Go.Proofs.Ythnjhhohfhnhgaa
