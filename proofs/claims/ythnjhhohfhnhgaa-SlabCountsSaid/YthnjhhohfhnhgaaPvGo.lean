/- The logic of pure values: the steps of a walk, over slots and own blocks that stand as lists. -/
import Derived.Test.YthnjhhohfhnhgaaPvApp
namespace Go.Proofs.Ythnjhhohfhnhgaa
open Go Go.RowKit

def tget : List (Nat × PV) → Nat → PV
  | [], _ => .junk
  | (d, v) :: l, t => match Nat.beq t d with
    | true => v
    | false => tget l t
def hget : List (Nat × Blk') → Nat → Option Blk'
  | [], _ => none
  | (d, v) :: l, t => match Nat.beq t d with
    | true => some v
    | false => hget l t
/-- The state that two lists tell. -/
abbrev St' (TL : List (Nat × PV)) (HL : List (Nat × Blk')) (n : Nat) : LSt := ⟨tget TL, hget HL, n⟩
/-- What a list tells of a slot. -/
def Lk (TL : List (Nat × PV)) (t : Nat) (v : PV) : Prop := tget TL t = v
theorem Lk.here {TL : List (Nat × PV)} {t : Nat} {v : PV} : Lk ((t, v) :: TL) t v := by unfold Lk tget; rw [Nat.beq_refl]
theorem Lk.there {TL : List (Nat × PV)} {t d : Nat} {u v : PV} (h : Nat.beq t d = false) (hl : Lk TL t v) : Lk ((d, u) :: TL) t v := by unfold Lk tget; rw [h]; exact hl
theorem ev_tmp {TL : List (Nat × PV)} {t : Nat} {v : PV} (h : Lk TL t v) : ev (tget TL) (.tmp t) = v := h
theorem ev_const {T : Nat → PV} {c : Value} {v : PV} (h : pvOf c = v) : ev T (.const c) = v := h
theorem ev_cint {T : Nat → PV} {k : IntKind} {i : Int} : ev T (.const (.int k i)) = .int k i := rfl
theorem ev_cbool {T : Nat → PV} {b : Bool} : ev T (.const (.bool b)) = .bool b := rfl
theorem ev_cstr {T : Nat → PV} {s : ByteArray} : ev T (.const (.string s)) = .str s := rfl
theorem ev_cnilp {T : Nat → PV} : ev T (.const (.pointer none)) = .nilp := rfl
theorem ev_cnils {T : Nat → PV} : ev T (.const (.slice none 0 0)) = .nils := rfl
theorem ev_cnilf {T : Nat → PV} : ev T (.const .nilFunc) = .nilf := rfl
theorem ev_cnili {T : Nat → PV} : ev T (.const .nilIface) = .nili := rfl
theorem ev_func {T : Nat → PV} {f : FuncId} : ev T (.func f) = .fn (.func f) [] [] := rfl
theorem put_cons (TL : List (Nat × PV)) (d : Nat) (v : PV) : putT (tget TL) (some d) v = tget ((d, v) :: TL) := rfl
theorem set_cons (HL : List (Nat × Blk')) (d : Nat) (v : Blk') : setH (hget HL) d v = hget ((d, v) :: HL) := rfl

def dstB (d : Option Nat) (N : Nat) : Bool := match d with
  | some d => Nat.ble (d + 1) N
  | none => true
theorem dst_of {o : Oper} {N : Nat} (h : dstB o.dst N = true) : ∀ d, o.dst = some d → d < N := by
  intro d hd
  unfold dstB at h
  rw [hd] at h
  exact Nat.le_of_ble_eq_true h
def putL (TL : List (Nat × PV)) : Option Nat → PV → List (Nat × PV)
  | some d, v => (d, v) :: TL
  | none, _ => TL
theorem put_L (TL : List (Nat × PV)) (d : Option Nat) (v : PV) : putT (tget TL) d v = tget (putL TL d v) := by cases d <;> rfl

/-- The operations of a region, from here on. -/
def RL (P : Program) (N : Nat) (ops : Array Oper) (l : List Oper) (TL : List (Nat × PV)) (HL : List (Nat × Blk')) (n : Nat) (fp : List Fp) (K : List (Nat × PV) → List (Nat × Blk') → Nat → List Fp → Prop) : Prop :=
  Runs P N ops l (tget TL) (hget HL) n fp fun T H n' fp' => ∃ TL' HL', T = tget TL' ∧ H = hget HL' ∧ K TL' HL' n' fp'
section
variable {P : Program} {N : Nat} {ops : Array Oper} {o : Oper} {l : List Oper} {TL : List (Nat × PV)} {HL : List (Nat × Blk')} {n n' : Nat} {fp : List Fp} {K : List (Nat × PV) → List (Nat × Blk') → Nat → List Fp → Prop} {v : PV} {R W : List Nat} {d : Nat}
theorem RL.done (h : K TL HL n fp) : RL P N ops [] TL HL n fp K := ⟨TL, HL, rfl, rfl, h⟩
theorem RL.q (hg : gd ops (tget TL) o = some true) (hd : o.dst = some d) (h : OpOk P N o (tget TL) (hget HL) n v (hget HL) n' R W) (hr : RL P N ops l ((d, v) :: TL) HL n' (fp ++ [(R, W)]) K) : RL P N ops (o :: l) TL HL n fp K :=
  .inl ⟨hg, v, _, n', R, W, h, by rw [hd, put_cons]; exact hr⟩
theorem RL.q0 (hg : gd ops (tget TL) o = some true) (hd : o.dst = none) (h : OpOk P N o (tget TL) (hget HL) n v (hget HL) n' R W) (hr : RL P N ops l TL HL n' (fp ++ [(R, W)]) K) : RL P N ops (o :: l) TL HL n fp K :=
  .inl ⟨hg, v, _, n', R, W, h, by rw [hd]; exact hr⟩
theorem RL.w {i : Nat} {b : Blk'} (hg : gd ops (tget TL) o = some true) (hd : o.dst = some d) (h : OpOk P N o (tget TL) (hget HL) n v (setH (hget HL) i b) n' R W) (hr : RL P N ops l ((d, v) :: TL) ((i, b) :: HL) n' (fp ++ [(R, W)]) K) : RL P N ops (o :: l) TL HL n fp K :=
  .inl ⟨hg, v, _, n', R, W, h, by rw [hd, put_cons, set_cons]; exact hr⟩
theorem RL.w0 {i : Nat} {b : Blk'} (hg : gd ops (tget TL) o = some true) (hd : o.dst = none) (h : OpOk P N o (tget TL) (hget HL) n v (setH (hget HL) i b) n' R W) (hr : RL P N ops l TL ((i, b) :: HL) n' (fp ++ [(R, W)]) K) : RL P N ops (o :: l) TL HL n fp K :=
  .inl ⟨hg, v, _, n', R, W, h, by rw [hd, set_cons]; exact hr⟩
/-- Not wanted. -/
theorem RL.skip {b w : Bool} {j e : Nat} (hg : o.guard = some (j, w)) (he : (ops[j]?).bind (·.dst) = some e) (hb : Lk TL e (.bool b)) (hw : (b == w) = false) (hd : o.dst = some d) (hN : dstB o.dst N = true) (hr : RL P N ops l ((d, .junk) :: TL) HL n (fp ++ [([], [])]) K) : RL P N ops (o :: l) TL HL n fp K := by
  refine .inr ⟨?_, dst_of hN, by rw [hd, put_cons]; exact hr⟩
  unfold gd
  rw [hg]
  simp only [he]
  rw [show tget TL e = .bool b from hb]
  simp only [hw]
theorem gd_none {T : Nat → PV} (h : o.guard = none) : gd ops T o = some true := by unfold gd; rw [h]
theorem gd_want {b w : Bool} {j e : Nat} (hg : o.guard = some (j, w)) (he : (ops[j]?).bind (·.dst) = some e) (hb : Lk TL e (.bool b)) (hw : (b == w) = true) : gd ops (tget TL) o = some true := by
  unfold gd
  rw [hg]
  simp only [he]
  rw [show tget TL e = .bool b from hb]
  simp only [hw]
end
section
variable {R0 : Option Nat} {P : Program} {N k0 : Nat} {Q : Exit → LSt → Prop} {TL : List (Nat × PV)} {HL : List (Nat × Blk')} {n : Nat}
theorem lw_region {id : Nat} {l : List Oper} (h : RL P N l.toArray l TL HL n [] (fun TL' HL' n' _ => Q .normal (St' TL' HL' n'))) (hnd : l.all nd = true := by rfl) : lwp R0 P N k0 (.region id l.toArray false) Q (St' TL HL n) := by
  refine lwp_region (runs_mono h ?_) hnd
  rintro T H n' fp ⟨TL', HL', rfl, rfl, h⟩
  exact h
theorem lw_region_any {id : Nat} {l : List Oper} (hm : P.follows .mixedOrders = true) (h : RL P N l.toArray l TL HL n [] (fun TL' HL' n' fp => ordOk l fp = true ∧ Q .normal (St' TL' HL' n'))) (hnd : l.all nd = true := by rfl) : lwp R0 P N k0 (.region id l.toArray true) Q (St' TL HL n) := by
  refine lwp_region_any hm (runs_mono h ?_) hnd
  rintro T H n' fp ⟨TL', HL', rfl, rfl, h⟩
  exact h
end
end Go.Proofs.Ythnjhhohfhnhgaa
