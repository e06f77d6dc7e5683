/- The slab: what its functions do, as a model; the call of a method by contract. -/
import Derived.Test.YthnjhhohfhnhgaaPvLoop
import Derived.Test.YthnjhhohfhnhgaaPvCopy
import Derived.Test.YthnjhhohfhnhgaaTy
namespace Go.Proofs.Ythnjhhohfhnhgaa
open Go Go.RowKit
set_option maxRecDepth 10000

structure Sec where
  burnt : Option (List UInt8)
  ink : Option (List UInt8)
structure Slb where
  l : List Sec
  endless : Bool
  supply : Int
  strokes : Int
/-- Bytes that may be none. -/
def ofO : Option (List UInt8) → PV
  | none => .nils
  | some b => .ro false b.length (pb b)
def secPV (s : Sec) : List PV := [ofO s.burnt, ofO s.ink]
def slabS (b : Nat) (s : Slb) : Blk' := ⟨0, 1, 0, [.os b 0 0 s.l.length, .bool s.endless, .int .i64 s.supply, .int .i64 s.strokes]⟩
def slabL (s : Slb) : Blk' := ⟨0, 2, 0, s.l.flatMap secPV⟩
instance ofO_cl (o : Option (List UInt8)) : Cl (ofO o) := by
  cases o
  · exact inferInstanceAs (Cl .nils)
  · exact inferInstanceAs (Cl (.ro _ _ _))
theorem flatMap_snap {H : Nat → Option Blk'} {vis : List Nat} : ∀ l : List Sec, SnapL H vis (l.flatMap secPV) (l.flatMap secPV)
  | [] => .nil
  | s :: l => by
    rw [List.flatMap_cons]
    exact SnapL.append (.cons ((ofO_cl _).out H vis) (.cons ((ofO_cl _).out H vis) .nil)) (flatMap_snap l)
instance secs_cl (l : List Sec) : ClL (l.flatMap secPV) := ⟨fun _ _ => flatMap_snap l⟩
theorem leaf_ofO (o : Option (List UInt8)) : leaf (ofO o) = true := by cases o <;> rfl
theorem length_secs (l : List Sec) : (l.flatMap secPV).length = l.length * 2 := by
  induction l with
  | nil => rfl
  | cons s l ih => rw [List.flatMap_cons, List.length_append, ih, List.length_cons]; simp [secPV]; omega
theorem drop_secs (l : List Sec) (i : Nat) : (l.flatMap secPV).drop (i * 2) = (l.drop i).flatMap secPV := by
  induction l generalizing i with
  | nil => simp
  | cons s l ih =>
    cases i with
    | zero => simp
    | succ i =>
      rw [List.flatMap_cons, show (i + 1) * 2 = (secPV s).length + i * 2 by simp [secPV]; omega, List.drop_append, List.drop_succ_cons, ← ih]
      simp [secPV]
theorem at_secs (l : List Sec) (i : Nat) (h : i < l.length) : (l.flatMap secPV).drop (i * 2) = ofO l[i].burnt :: ofO l[i].ink :: (l.drop (i + 1)).flatMap secPV := by
  rw [drop_secs, List.drop_eq_getElem_cons h, List.flatMap_cons]
  rfl
theorem set_secs (l : List Sec) (i : Nat) (s : Sec) : ((l.flatMap secPV).set (i * 2) (ofO s.burnt)).set (i * 2 + 1) (ofO s.ink) = (l.set i s).flatMap secPV := by
  induction l generalizing i with
  | nil => simp
  | cons t l ih =>
    cases i with
    | zero => simp [secPV]
    | succ i =>
      rw [List.set_cons_succ, List.flatMap_cons, List.flatMap_cons, ← ih, show (i + 1) * 2 = i * 2 + 1 + 1 by omega]
      simp [secPV]
theorem set_burnt (l : List Sec) (i : Nat) (h : i < l.length) (o : Option (List UInt8)) : (l.flatMap secPV).set (i * 2) (ofO o) = (l.set i ⟨o, l[i].ink⟩).flatMap secPV := by
  rw [← set_secs]
  have := at_secs l i h
  have h2 : (l.flatMap secPV)[i * 2 + 1]? = some (ofO l[i].ink) := by
    rw [← List.getElem?_drop, this]; rfl
  apply List.ext_getElem?
  intro j
  simp only [List.getElem?_set, List.length_set]
  by_cases e : i * 2 + 1 = j
  · subst e
    rw [if_neg (by omega), if_pos rfl, if_pos (by rw [length_secs]; omega)]
    exact h2
  · rw [if_neg e]
theorem set_ink (l : List Sec) (i : Nat) (h : i < l.length) (o : Option (List UInt8)) : (l.flatMap secPV).set (i * 2 + 1) (ofO o) = (l.set i ⟨l[i].burnt, o⟩).flatMap secPV := by
  rw [← set_secs]
  have := at_secs l i h
  have h2 : (l.flatMap secPV)[i * 2]? = some (ofO l[i].burnt) := by
    have h3 := List.getElem?_drop (xs := l.flatMap secPV) (i := i * 2) (j := 0)
    rw [this] at h3
    exact h3.symm
  apply List.ext_getElem?
  intro j
  simp only [List.getElem?_set, List.length_set]
  by_cases e : i * 2 + 1 = j
  · simp [e]
  · rw [if_neg e, if_neg e]
    by_cases e2 : i * 2 = j
    · subst e2
      rw [if_pos rfl, if_pos (by rw [length_secs]; omega)]
      exact h2
    · rw [if_neg e2]

theorem slabS_tr {ρ : List Nat} {H : Nat → Option Blk'} {vis : List Nat} {b b' : Nat} {s : Slb} (h : ρ[b']? = some b) : BlkTr (inM ρ) H vis (slabS b s) (slabS b' s) := ⟨rfl, rfl, rfl, .cons (.osI h) (.cons .cv (.cons .cv (.cons .cv .nil)))⟩
theorem slabL_tr {M : Nat → Nat → Prop} {H : Nat → Option Blk'} {vis : List Nat} {s : Slb} : BlkTr M H vis (slabL s) (slabL s) := ⟨rfl, rfl, rfl, .snap (flatMap_snap _)⟩
/-- The contract of a method of a slab. -/
def SlabC (g : FuncId) (s : Slb) (xs : List PV) (r : PV) (s' : Slb) (h : Nat) : Prop :=
  CtrO Try.prog g [slabS 1 s, slabL s] (.op 0 0 0 :: xs) r (some (slabS 1 s') :: some (slabL s') :: List.replicate h none)
section
variable {N : Nat} {o : Oper} {TL : List (Nat × PV)} {HL : List (Nat × Blk')} {n n' : Nat} {ops : Array Oper} {l : List Oper} {fp : List Fp} {K : List (Nat × PV) → List (Nat × Blk') → Nat → List Fp → Prop} {v : PV} {R W : List Nat} {d : Nat}
theorem hget_none {HL : List (Nat × Blk')} {n i : Nat} (h : HL.all (fun p => Nat.ble (p.1 + 1) n) = true) (hi : n ≤ i) : hget HL i = none := by
  induction HL with
  | nil => rfl
  | cons p HL ih =>
    obtain ⟨d, b⟩ := p
    rw [List.all_cons, Bool.and_eq_true] at h
    have := Nat.le_of_ble_eq_true h.1
    unfold hget
    rw [beq_ne (by omega)]
    exact ih h.2
theorem oSlab (bS bL : Nat) {s s' : Slb} {h : Nat} {g : FuncId} [Ent Try.prog g] {f : Operand} {av : Array Operand} {ts : Array TypeId} {ys xs : List PV} {r : PV}
    (ho : o.op = .call { callee := .value f, args := av, argTypes := ts }) (hN : dstB o.dst N = true) {T : Nat → PV} (hf : ev T f = .fn (.func g) [] []) (hy : av.toList.map (ev T) = .op bS 0 0 :: ys) (hc : SlabC g s xs r s' h)
    (hS : hget HL bS = some (slabS bL s)) (hL : hget HL bL = some (slabL s)) (hne : Nat.beq bS bL = false) (hall : HL.all (fun p => Nat.ble (p.1 + 1) n) = true) (hn : n + h = n') [hxs : CvL ys xs] [hr : Cl r] :
    OpOk Try.prog N o T (hget HL) n r (hget ([(bS, slabS bL s'), (bL, slabL s')] ++ HL)) n' [] ([] ++ [bS, bL] ++ (List.range ((some (slabS 1 s') :: some (slabL s') :: List.replicate h (none : Option Blk')).length - 2)).map (n + ·)) := by
  have hne' : bS ≠ bL := fun e => by subst e; rw [Nat.beq_refl] at hne; cases hne
  have hkey : ∀ i, hget HL i ≠ none → i < n := fun i hi => by
    rcases Nat.lt_or_ge i n with h1 | h1
    · exact h1
    · exact absurd (hget_none hall h1) hi
  have hbS : bS < n := hkey bS (by rw [hS]; simp)
  have hbL : bL < n := hkey bL (by rw [hL]; simp)
  have hk : (some (slabS 1 s') :: some (slabL s') :: List.replicate h (none : Option Blk')).length = h + 2 := by simp
  have hge : hget ([(bS, slabS bL s'), (bL, slabL s')] ++ HL) bS = some (slabS bL s') := by
    show (match Nat.beq bS bS with | true => some _ | false => _) = _
    rw [Nat.beq_refl]
  have hgl : hget ([(bS, slabS bL s'), (bL, slabL s')] ++ HL) bL = some (slabL s') := by
    show (match Nat.beq bL bS with | true => some _ | false => (match Nat.beq bL bL with | true => some _ | false => _)) = _
    rw [beq_ne (Ne.symm hne'), Nat.beq_refl]
  refine oCallO [bS, bL] [(bS, slabS bL s'), (bL, slabL s')] ho hN hf hy hc (by simp [hne']) ⟨⟨_, hS, ⟨rfl, rfl, rfl, .cons (.os rfl) (.cons .cv (.cons .cv (.cons .cv .nil)))⟩⟩, ⟨_, hL, ⟨rfl, rfl, rfl, .snap (flatMap_snap _)⟩⟩, trivial⟩ (.cons (.op rfl) .cv) (by simp) ⟨⟨_, hge, ⟨rfl, rfl, rfl, .cons (.os ⟨by rw [hk]; omega, rfl⟩) (.cons .cv (.cons .cv (.cons .cv .nil)))⟩⟩, ⟨_, hgl, ⟨rfl, rfl, rfl, .snap (flatMap_snap _)⟩⟩, ?_⟩ (by rw [hk]; simp; omega) (by simp) .cv
  have key : ∀ (h m : Nat), 2 ≤ m → outB [bS, bL] n (some (slabS 1 s') :: some (slabL s') :: List.replicate h (none : Option Blk')).length (hget ([(bS, slabS bL s'), (bL, slabL s')] ++ HL)) m (List.replicate h none) := by
    intro h
    generalize (some (slabS 1 s') :: some (slabL s') :: List.replicate h (none : Option Blk')).length = q
    induction h with
    | zero => intro m _; trivial
    | succ h ih =>
      intro m hm
      refine ⟨?_, ih (m + 1) (by omega)⟩
      have e : numO [bS, bL] n m = n + (m - 2) := if_neg (by simp; omega)
      rw [e, hget_app (by simp; omega)]
      exact hget_none hall (by omega)
  exact key h 2 (by omega)
end
end Go.Proofs.Ythnjhhohfhnhgaa
